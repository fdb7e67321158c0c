/- Lines of 4 texts of this seat, merged by wip/shake.py (a program of this session): what the statement's proof does not use is left out. -/
import Derived.Test.YthohhdcngdmbeaaZArcWhole2

section
namespace Go.Proofs.Ythohhdcngdmbeaa.PW
open Go.RowKit Go.Proofs.YthohhdcngdmbeaaW.PrintWords Go.Proofs.YthohhdcngdmbeaaW.PrintLast Go.Proofs.YthohhdcngdmbeaaW.PrintMore
attribute [local go_sem] max2_int min2_int max_two min_two max_three min_three max_four min_four
attribute [local go_sem] Go.Proofs.Ythohhdcngdmbeaa.MS.isSome_setCell
set_option linter.unusedVariables false
set_option linter.unusedSimpArgs false
def arc_Side.f (k : Nat) (a0_0 : Bool) (l0_1 : List (S34)) (a1 : Int) : Option (Int × Int × Int × Int × Int) := if 0 ≤ a1 then (if a1 < (l0_1.length : Int) then ((arc_place.f ((rd_T34 l0_1 a1).f0) ((rd_T34 l0_1 a1).f1)).bind fun bt143 => (if (l0_1.length : Int) = 0 then (none) else (if 0 ≤ (Int.tmod (wrap64 (a1 + 1)) (l0_1.length : Int)) then (if (Int.tmod (wrap64 (a1 + 1)) (l0_1.length : Int)) < (l0_1.length : Int) then ((arc_place.f ((rd_T34 l0_1 (Int.tmod (wrap64 (a1 + 1)) (l0_1.length : Int))).f0) ((rd_T34 l0_1 (Int.tmod (wrap64 (a1 + 1)) (l0_1.length : Int))).f1)).bind fun bt146 => ((q_Hyp.f k (wrap64 (bt146.1 - bt143.1)) (wrap64 (bt146.2 - bt143.2))).bind fun t150 => (some (bt143.1, bt143.2, bt146.1, bt146.2, t150)))) else (none)) else (none)))) else (none)) else (none)
theorem arc_Side.mono : ∀ a0 a1 a2 k, LeO (arc_Side.f k a0 a1 a2) (arc_Side.f (k + 1) a0 a1 a2) := by
 intro a0 a1 a2 k
 unfold arc_Side.f
 repeat' first
   | (with_reducible exact q_Hyp.mono _ _ _)
   | (with_reducible exact LeO.refl _)
   | (with_reducible exact LeO.none _)
   | (with_reducible refine LeO.ite ?_ ?_)
   | (with_reducible refine LeO.bind ?_ (fun _ => ?_))
   | exact q_Hyp.mono _ _ _
   | exact LeO.none _
   | refine LeO.ite ?_ ?_
   | refine LeO.bind ?_ (fun _ => ?_)
def arc_Side.T1 : Bool × List (List Nat × List Nat) := (true, [([], []), ([0], [0]), ([], []), ([1, 2], [1, 2]), ([3], [3]), ([4], [4]), ([], []), ([6], [6]), ([], []), ([8], [8]), ([], []), ([10], [10]), ([11], [11]), ([9, 12], [9, 12]), ([7, 13], [7, 13]), ([14], [14]), ([15, 5], [15]), ([], []), ([], []), ([17, 5, 16, 0, 1, 2, 3, 4, 5, 17, 18], [5, 17]), ([18, 16, 19, 0, 1, 2, 3, 4, 5, 6, 7, 8, 9, 10, 11, 12, 13, 14, 15, 16, 17, 18, 19], [16, 18])])
def arc_Side.B1 : List Nat := [0, 1, 0, 7, 15, 31, 0, 64, 0, 256, 0, 1024, 3072, 7936, 16320, 32704, 65535, 0, 0, 524287, 1048575]
theorem arc_Side.tab1 : rtab .any (opsOf Try.f55 1) = arc_Side.T1 := by kernel_rfl
theorem arc_Side.bits1 : waitsOk arc_Side.T1.2 arc_Side.B1 = true := by kernel_rfl
def arc_Side.T2 : Bool × List (List Nat × List Nat) := (true, [([], []), ([], []), ([], []), ([2], [2]), ([], []), ([4], [4]), ([3, 5], [3, 5]), ([], []), ([7], [7]), ([], []), ([9], [9]), ([8, 10], [8, 10]), ([6, 11], [6, 11]), ([0, 12, 0], [0]), ([1, 13, 0, 1, 13], [1]), ([12, 14, 0, 1, 2, 3, 4, 5, 6, 7, 8, 9, 10, 11, 12, 13, 14], [12])])
def arc_Side.B2 : List Nat := [0, 0, 0, 4, 0, 16, 60, 0, 128, 0, 512, 1920, 4092, 8189, 16383, 32767]
theorem arc_Side.tab2 : rtab .any (opsOf Try.f55 2) = arc_Side.T2 := by kernel_rfl
theorem arc_Side.bits2 : waitsOk arc_Side.T2.2 arc_Side.B2 = true := by kernel_rfl
set_option maxHeartbeats 8000000 in
set_option maxRecDepth 100000 in
theorem arc_Side.calls (k : Nat) (a0_0 : Bool) (A0_1 : Option Addr) (c0_1 : Nat) (l0_1 : List (S34)) (a1 : Int) (r1 : Int) (r2 : Int) (r3 : Int) (r4 : Int) (r5 : Int) (w : World) (hr0_1 : Kd.C k34 w A0_1 l0_1.length l0_1) (hc0_1 : l0_1.length ≤ c0_1) (h : arc_Side.f k a0_0 l0_1 a1 = some (r1, r2, r3, r4, r5)) :
  Calls Try.prog 55 #[.agg #[.bool a0_0, .slice A0_1 l0_1.length c0_1], .int .i64 a1] w fun e w' => e = .returned (.tuple #[.agg #[.int .i64 r1, .int .i64 r2], .agg #[.int .i64 r3, .int .i64 r4], .int .i64 r5]) ∧ Below w.heap.size w w' := by
 have hu39 := Try.underlying39
 have hu34 := Try.underlying34
 have HR0_1 := Aside0.mk hr0_1
 have HC0_1 := Aside0.mk hc0_1
 clear hr0_1 hc0_1
 have HB := Aside0.mk (Below.refl w.heap.size w)
 have H : (if 0 ≤ a1 then (if a1 < (l0_1.length : Int) then ((arc_place.f ((rd_T34 l0_1 a1).f0) ((rd_T34 l0_1 a1).f1)).bind fun bt143 => (if (l0_1.length : Int) = 0 then (none) else (if 0 ≤ (Int.tmod (wrap64 (a1 + 1)) (l0_1.length : Int)) then (if (Int.tmod (wrap64 (a1 + 1)) (l0_1.length : Int)) < (l0_1.length : Int) then ((arc_place.f ((rd_T34 l0_1 (Int.tmod (wrap64 (a1 + 1)) (l0_1.length : Int))).f0) ((rd_T34 l0_1 (Int.tmod (wrap64 (a1 + 1)) (l0_1.length : Int))).f1)).bind fun bt146 => ((q_Hyp.f k (wrap64 (bt146.1 - bt143.1)) (wrap64 (bt146.2 - bt143.2))).bind fun t150 => (some (bt143.1, bt143.2, bt146.1, bt146.2, t150)))) else (none)) else (none)))) else (none)) else (none)) = some (r1, r2, r3, r4, r5) := h
 clear h
 by_cases c3 : 0 ≤ a1
 ·rw [if_pos c3] at H
  have c3b0 : decide (0 ≤ a1) = true := decide_eq_true c3
  clear c3
  by_cases c4 : a1 < (l0_1.length : Int)
  ·rw [if_pos c4] at H
   have c4b0 : decide (a1 < (l0_1.length : Int)) = true := decide_eq_true c4
   clear c4
   replace H := Option.bind_eq_some_iff.mp H
   obtain ⟨⟨t143, t144⟩, A50, H⟩ := H
   replace H : (if (l0_1.length : Int) = 0 then (none) else (if 0 ≤ (Int.tmod (wrap64 (a1 + 1)) (l0_1.length : Int)) then (if (Int.tmod (wrap64 (a1 + 1)) (l0_1.length : Int)) < (l0_1.length : Int) then ((arc_place.f ((rd_T34 l0_1 (Int.tmod (wrap64 (a1 + 1)) (l0_1.length : Int))).f0) ((rd_T34 l0_1 (Int.tmod (wrap64 (a1 + 1)) (l0_1.length : Int))).f1)).bind fun bt146 => ((q_Hyp.f k (wrap64 (bt146.1 - t143)) (wrap64 (bt146.2 - t144))).bind fun t150 => (some (t143, t144, bt146.1, bt146.2, t150)))) else (none)) else (none))) = some (r1, r2, r3, r4, r5) := H
   have A5 := Aside0.mk A50
   clear A50
   by_cases c6 : (l0_1.length : Int) = 0
   ·rw [if_pos c6] at H
    exact absurd H (by simp)
   ·rw [if_neg c6] at H
    have c6b0 : ((l0_1.length : Int) == 0) = false := beq_eq_false_iff_ne.mpr c6
    have c6b1 : ((l0_1.length : Int) != 0) = true := bne_iff_ne.mpr c6
    have c6b2 : ¬ (l0_1 = []) := fun h_ => c6 (by rw [h_]; rfl)
    obtain ⟨ji7, hji7⟩ : ∃ j_ : Int, (Int.tmod (wrap64 (a1 + 1)) (l0_1.length : Int)) = j_ := ⟨_, rfl⟩
    replace H : (if 0 ≤ (ji7) then (if (ji7) < (l0_1.length : Int) then ((arc_place.f ((rd_T34 l0_1 (ji7)).f0) ((rd_T34 l0_1 (ji7)).f1)).bind fun bt146 => ((q_Hyp.f k (wrap64 (bt146.1 - t143)) (wrap64 (bt146.2 - t144))).bind fun t150 => (some (t143, t144, bt146.1, bt146.2, t150)))) else (none)) else (none)) = some (r1, r2, r3, r4, r5) := by first | (rw [hji7] at H; exact H) | (simp only [hji7] at H ⊢; exact H)
    (try rw [hji7] at A5)
    by_cases c8 : 0 ≤ (ji7)
    ·rw [if_pos c8] at H
     have c8b0 : decide (0 ≤ (ji7)) = true := decide_eq_true c8
     clear c8
     by_cases c9 : (ji7) < (l0_1.length : Int)
     ·rw [if_pos c9] at H
      have c9b0 : decide ((ji7) < (l0_1.length : Int)) = true := decide_eq_true c9
      clear c9
      replace H := Option.bind_eq_some_iff.mp H
      obtain ⟨⟨t146, t147⟩, A100, H⟩ := H
      replace H : ((q_Hyp.f k (wrap64 (t146 - t143)) (wrap64 (t147 - t144))).bind fun t150 => (some (t143, t144, t146, t147, t150))) = some (r1, r2, r3, r4, r5) := H
      have A10 := Aside0.mk A100
      clear A100
      replace H := Option.bind_eq_some_iff.mp H
      obtain ⟨t150, A110, H⟩ := H
      replace H : (some (t143, t144, t146, t147, t150)) = some (r1, r2, r3, r4, r5) := H
      have A11 := Aside0.mk A110
      clear A110
      simp only [Option.some.injEq, Prod.mk.injEq] at H
      obtain ⟨rfl, rfl, rfl, rfl, rfl⟩ := H
      go_enter Try.func55, Try.ntmps55
      try go_wp2_with (first | ((with_reducible refine gate_dst (N := 2) rfl ?_); refine box_event ?hg (N := 2) ?hd (cs := #[.bool a0_0, .slice A0_1 l0_1.length c0_1]) (t := 39) ?hr ?_; (case hd => rfl); (case hg => rfl); (case hr => first | (go_simp; done) | (go_simp; rfl)); intro gb139 hg w12 hbox hb; have n0_ := Aside0.mk (below_step (by repeat (first | (with_reducible first | exact HB.out | apply below_alloc | apply pw_below_drewN | apply below_drew1) | exact HB.out)) hb); have n1_ := Aside0.mk (hbox); have n2_ := Aside0.mk ((by rw [hg]; exact (below_size (by repeat (first | (with_reducible first | exact HB.out | apply below_alloc | apply pw_below_drewN | apply below_drew1) | exact HB.out))) : w.heap.size ≤ gb139)); have n3_ := Aside0.mk ((by rw [hg]; exact (below_size (by repeat (first | (with_reducible first | exact HB.out | apply below_alloc | apply pw_below_drewN | apply below_drew1) | exact HB.out))) : w.heap.size ≤ gb139)); clear HB; have HB := n0_; have BK139 := n1_; have GW139 := n2_; have GE139 := n3_; clear n0_ n1_ n2_ n3_; clear hb hbox hg) | ((with_reducible refine gate_dst (N := 4) rfl ?_); refine box_event ?hg (N := 4) ?hd (cs := #[.int .i64 0, .int .i64 0]) (t := 34) ?hr ?_; (case hd => rfl); (case hg => rfl); (case hr => first | (go_simp; done) | (go_simp; rfl)); intro gb140 hg w13 hbox hb; have n0_ := Aside0.mk (blk_below (g := gb139) (o := .cells #[.bool a0_0, .slice A0_1 l0_1.length c0_1] 39 (0, 0)) (by (with_reducible repeat (first | refine blk_drewN ?_ _ | refine blk_drew ?_ | refine blk_alloc ?_ _)); exact BK139.out) hb); have n1_ := Aside0.mk (below_step (by repeat (first | (with_reducible first | exact HB.out | apply below_alloc | apply pw_below_drewN | apply below_drew1 | refine below_set ?_ GE139.out) | exact HB.out)) hb); have n2_ := Aside0.mk (hbox); have n3_ := Aside0.mk ((by rw [hg]; exact (below_size (by repeat (first | (with_reducible first | exact HB.out | apply below_alloc | apply pw_below_drewN | apply below_drew1 | refine below_set ?_ GE139.out) | exact HB.out))) : w.heap.size ≤ gb140)); have n4_ := Aside0.mk ((by rw [hg]; exact (below_size (by repeat (first | (with_reducible first | exact HB.out | apply below_alloc | apply pw_below_drewN | apply below_drew1 | refine below_set ?_ GE139.out) | exact HB.out))) : w.heap.size ≤ gb140)); have n5_ := Aside0.mk ((by rw [hg]; exact Nat.ne_of_lt (blk_lt (g := gb139) (o := .cells #[.bool a0_0, .slice A0_1 l0_1.length c0_1] 39 (0, 0)) (by (with_reducible repeat (first | refine blk_drewN ?_ _ | refine blk_drew ?_ | refine blk_alloc ?_ _)); exact BK139.out)) : gb139 ≠ gb140)); have n6_ := Aside0.mk ((by rw [hg]; exact Nat.ne_of_gt (blk_lt (g := gb139) (o := .cells #[.bool a0_0, .slice A0_1 l0_1.length c0_1] 39 (0, 0)) (by (with_reducible repeat (first | refine blk_drewN ?_ _ | refine blk_drew ?_ | refine blk_alloc ?_ _)); exact BK139.out)) : gb140 ≠ gb139)); clear BK139; clear HB; have BK139 := n0_; have HB := n1_; have BK140 := n2_; have GW140 := n3_; have GE140 := n4_; have NB139_140 := n5_; have NB140_139 := n6_; clear n0_ n1_ n2_ n3_ n4_ n5_ n6_; clear hb hbox hg) | ((with_reducible refine gate_dst (N := 5) rfl ?_); refine box_event ?hg (N := 5) ?hd (cs := #[.int .i64 0, .int .i64 0]) (t := 34) ?hr ?_; (case hd => rfl); (case hg => rfl); (case hr => first | (go_simp; done) | (go_simp; rfl)); intro gb141 hg w14 hbox hb; have n0_ := Aside0.mk (blk_below (g := gb139) (o := .cells #[.bool a0_0, .slice A0_1 l0_1.length c0_1] 39 (0, 0)) (by (with_reducible repeat (first | refine blk_drewN ?_ _ | refine blk_drew ?_ | refine blk_alloc ?_ _)); exact BK139.out) hb); have n1_ := Aside0.mk (blk_below (g := gb140) (o := .cells #[.int .i64 0, .int .i64 0] 34 (0, 0)) (by (with_reducible repeat (first | refine blk_drewN ?_ _ | refine blk_drew ?_ | refine blk_alloc ?_ _)); exact BK140.out) hb); have n2_ := Aside0.mk (below_step (by repeat (first | (with_reducible first | exact HB.out | apply below_alloc | apply pw_below_drewN | apply below_drew1 | refine below_set ?_ GE139.out | refine below_set ?_ GE140.out) | exact HB.out)) hb); have n3_ := Aside0.mk (hbox); have n4_ := Aside0.mk ((by rw [hg]; exact (below_size (by repeat (first | (with_reducible first | exact HB.out | apply below_alloc | apply pw_below_drewN | apply below_drew1 | refine below_set ?_ GE139.out | refine below_set ?_ GE140.out) | exact HB.out))) : w.heap.size ≤ gb141)); have n5_ := Aside0.mk ((by rw [hg]; exact (below_size (by repeat (first | (with_reducible first | exact HB.out | apply below_alloc | apply pw_below_drewN | apply below_drew1 | refine below_set ?_ GE139.out | refine below_set ?_ GE140.out) | exact HB.out))) : w.heap.size ≤ gb141)); have n6_ := Aside0.mk ((by rw [hg]; exact Nat.ne_of_lt (blk_lt (g := gb139) (o := .cells #[.bool a0_0, .slice A0_1 l0_1.length c0_1] 39 (0, 0)) (by (with_reducible repeat (first | refine blk_drewN ?_ _ | refine blk_drew ?_ | refine blk_alloc ?_ _)); exact BK139.out)) : gb139 ≠ gb141)); have n7_ := Aside0.mk ((by rw [hg]; exact Nat.ne_of_gt (blk_lt (g := gb139) (o := .cells #[.bool a0_0, .slice A0_1 l0_1.length c0_1] 39 (0, 0)) (by (with_reducible repeat (first | refine blk_drewN ?_ _ | refine blk_drew ?_ | refine blk_alloc ?_ _)); exact BK139.out)) : gb141 ≠ gb139)); have n8_ := Aside0.mk ((by rw [hg]; exact Nat.ne_of_lt (blk_lt (g := gb140) (o := .cells #[.int .i64 0, .int .i64 0] 34 (0, 0)) (by (with_reducible repeat (first | refine blk_drewN ?_ _ | refine blk_drew ?_ | refine blk_alloc ?_ _)); exact BK140.out)) : gb140 ≠ gb141)); have n9_ := Aside0.mk ((by rw [hg]; exact Nat.ne_of_gt (blk_lt (g := gb140) (o := .cells #[.int .i64 0, .int .i64 0] 34 (0, 0)) (by (with_reducible repeat (first | refine blk_drewN ?_ _ | refine blk_drew ?_ | refine blk_alloc ?_ _)); exact BK140.out)) : gb141 ≠ gb140)); clear BK139; clear BK140; clear HB; have BK139 := n0_; have BK140 := n1_; have HB := n2_; have BK141 := n3_; have GW141 := n4_; have GE141 := n5_; have NB139_141 := n6_; have NB141_139 := n7_; have NB140_141 := n8_; have NB141_140 := n9_; clear n0_ n1_ n2_ n3_ n4_ n5_ n6_ n7_ n8_ n9_; clear hb hbox hg))
      have n0_ := Aside0.mk (blk_drew BK139.out)
      have n1_ := Aside0.mk (blk_drew BK140.out)
      have n2_ := Aside0.mk (blk_drew BK141.out)
      have n3_ := Aside0.mk (below_drew1 HB.out)
      clear BK139
      clear BK140
      clear BK141
      clear HB
      have BK139 := n0_
      have BK140 := n1_
      have BK141 := n2_
      have HB := n3_
      clear n0_ n1_ n2_ n3_
      have p142 : 0 ≤ (a1 : Int) := of_decide_eq_true (by first | (with_reducible assumption) | assumption)
      have q142 : a1 < (l0_1.length : Int) := of_decide_eq_true (by first | (with_reducible assumption) | assumption)
      obtain ⟨ad142, e142, hx142_0, hx142_1⟩ := at_T34 HR0_1.out a1 p142 q142
      have hw142_1 := hx142_1
      have hw142_0 := hx142_0
      cases e142
      replace hx142_0 := (HB.out.cell (World.block_lt_of_cell? w _ hx142_0)).trans hx142_0
      replace hx142_1 := (HB.out.cell (World.block_lt_of_cell? w _ hx142_1)).trans hx142_1
      replace p142 := eq_true p142
      replace q142 := eq_true q142
      have p145 : 0 ≤ ((ji7) : Int) := of_decide_eq_true (by first | (with_reducible assumption) | assumption)
      have q145 : (ji7) < (l0_1.length : Int) := of_decide_eq_true (by first | (with_reducible assumption) | assumption)
      obtain ⟨ad145, e145, hx145_0, hx145_1⟩ := at_T34 HR0_1.out (ji7) p145 q145
      have hw145_1 := hx145_1
      have hw145_0 := hx145_0
      obtain rfl : ad142 = ad145 := (by injection e145)
      replace hx145_0 := (HB.out.cell (World.block_lt_of_cell? w _ hx145_0)).trans hx145_0
      replace hx145_1 := (HB.out.cell (World.block_lt_of_cell? w _ hx145_1)).trans hx145_1
      replace p145 := eq_true p145
      replace q145 := eq_true q145
      refine start_ (n := 21) (S := fun w' => w'.cell? ⟨gb139, 0, none⟩ = some (.bool a0_0) ∧ w'.cell? ⟨gb139, 1, none⟩ = some (.slice (some ad142) l0_1.length c0_1) ∧ w'.cell? (ad142.add ((a1).toNat * 2)) = some (.int .i64 ((rd_T34 l0_1 a1).f0)) ∧ w'.cell? ⟨(ad142.add ((a1).toNat * 2)).block, (ad142.add ((a1).toNat * 2)).off + 1, none⟩ = some (.int .i64 ((rd_T34 l0_1 a1).f1)) ∧ w'.cell? (ad142.add (((ji7)).toNat * 2)) = some (.int .i64 ((rd_T34 l0_1 (ji7)).f0)) ∧ w'.cell? ⟨(ad142.add (((ji7)).toNat * 2)).block, (ad142.add (((ji7)).toNat * 2)).off + 1, none⟩ = some (.int .i64 ((rd_T34 l0_1 (ji7)).f1))) (ds := []) #[false, false, false, false, false, false, false, false, false, false, false, false, false, false, false, false, false, false, false, false, false] (by kernel_rfl) rfl rfl ⟨(blk_cell BK139.out 0).trans rfl, (blk_cell BK139.out 1).trans rfl, ((HB.out.cell (World.block_lt_of_cell? w _ hw142_0)).trans hw142_0), ((HB.out.cell (World.block_lt_of_cell? w _ hw142_1)).trans hw142_1), ((HB.out.cell (World.block_lt_of_cell? w _ hw145_0)).trans hw145_0), ((HB.out.cell (World.block_lt_of_cell? w _ hw145_1)).trans hw145_1)⟩ (fun hHeld => ?_); refine with_tabW arc_Side.tab1 arc_Side.bits1 (fun HT_ HW_ => ?_)
      generalize w14.drew = w15 at BK139 BK140 BK141 HB hx142_0 hx142_1 hx145_0 hx145_1 hHeld ⊢
      refine pure_ (i := 0) (N := some 9) (v := ?_) (a' := ?_) #[true, false, false, false, false, false, false, false, false, false, false, false, false, false, false, false, false, false, false, false, false] rfl rfl (any_of HT_.out (by kernel_rfl)) (fun _ _ _ h => h) (Or.inl ⟨by rfl, ?_⟩) ?_ ?_
      rotate_left
      ·intro w'
       go_simp
       with_reducible rfl
      rotate_left
      ·simp only [Act.put, List.setIfInBounds_toArray, List.set_cons_zero, List.set_cons_succ, i64_w, i32_w]
       rfl
      refine pure_ (i := 2) (N := some 11) (v := ?_) (a' := ?_) #[true, false, true, false, false, false, false, false, false, false, false, false, false, false, false, false, false, false, false, false, false] rfl rfl (any_of HT_.out (by kernel_rfl)) (fun _ _ _ h => h) (Or.inl ⟨by rfl, ?_⟩) ?_ ?_
      rotate_left
      ·intro w'
       go_simp
       with_reducible rfl
      rotate_left
      ·simp only [Act.put, List.setIfInBounds_toArray, List.set_cons_zero, List.set_cons_succ, i64_w, i32_w]
       rfl
      refine pure_ (i := 6) (N := some 15) (v := ?_) (a' := ?_) #[true, false, true, false, false, false, true, false, false, false, false, false, false, false, false, false, false, false, false, false, false] rfl rfl (any_of HT_.out (by kernel_rfl)) (fun _ _ _ h => h) (Or.inl ⟨by rfl, ?_⟩) ?_ ?_
      rotate_left
      ·intro w'
       go_simp
       with_reducible rfl
      rotate_left
      ·simp only [Act.put, List.setIfInBounds_toArray, List.set_cons_zero, List.set_cons_succ, i64_w, i32_w]
       rfl
      refine pure_ (i := 8) (N := some 17) (v := ?_) (a' := ?_) #[true, false, true, false, false, false, true, false, true, false, false, false, false, false, false, false, false, false, false, false, false] rfl rfl (any_of HT_.out (by kernel_rfl)) (fun _ _ _ h => h) (Or.inl ⟨by rfl, ?_⟩) ?_ ?_
      rotate_left
      ·intro w'
       go_simp
       with_reducible rfl
      rotate_left
      ·simp only [Act.put, List.setIfInBounds_toArray, List.set_cons_zero, List.set_cons_succ, i64_w, i32_w]
       rfl
      refine pure_ (i := 9) (N := some 18) (v := ?_) (a' := ?_) #[true, false, true, false, false, false, true, false, true, true, false, false, false, false, false, false, false, false, false, false, false] rfl rfl (any_of HT_.out (by kernel_rfl)) (fun _ _ _ h => h) (Or.inl ⟨by rfl, ?_⟩) ?_ ?_
      rotate_left
      ·intro w'
       go_simp
       with_reducible rfl
      rotate_left
      ·simp only [Act.put, List.setIfInBounds_toArray, List.set_cons_zero, List.set_cons_succ, i64_w, i32_w]
       rfl
      refine pure_ (i := 10) (N := some 19) (v := ?_) (a' := ?_) #[true, false, true, false, false, false, true, false, true, true, true, false, false, false, false, false, false, false, false, false, false] rfl rfl (any_of HT_.out (by kernel_rfl)) (fun _ _ _ h => h) (Or.inl ⟨by rfl, ?_⟩) ?_ ?_
      rotate_left
      ·intro w'
       go_simp
       with_reducible rfl
      rotate_left
      ·simp only [Act.put, List.setIfInBounds_toArray, List.set_cons_zero, List.set_cons_succ, i64_w, i32_w]
       rfl
      refine take_ (i := 1) (N := some 10) (v := ?_) (a' := ?_) #[true, true, true, false, false, false, true, false, true, true, true, false, false, false, false, false, false, false, false, false, false] rfl rfl (take_ofW HT_.out HW_.out (by kernel_rfl)) (fun _ _ _ h => h) (Or.inl ⟨by rfl, ?_⟩) hHeld ?_ ?_
      rotate_left
      ·rintro w' ⟨s0, s1, s2, s3, s4, s5⟩
       go_simp
       with_reducible rfl
      rotate_left
      ·simp only [Act.put, List.setIfInBounds_toArray, List.set_cons_zero, List.set_cons_succ, i64_w, i32_w]
       rfl
      refine pure_ (i := 3) (N := some 12) (v := ?_) (a' := ?_) #[true, true, true, true, false, false, true, false, true, true, true, false, false, false, false, false, false, false, false, false, false] rfl rfl (any_of HT_.out (by kernel_rfl)) (fun _ _ _ h => h) (Or.inl ⟨by rfl, ?_⟩) ?_ ?_
      rotate_left
      ·intro w'
       go_simp
       with_reducible rfl
      rotate_left
      ·simp only [Act.put, List.setIfInBounds_toArray, List.set_cons_zero, List.set_cons_succ, i64_w, i32_w]
       rfl
      refine take_ (i := 4) (N := some 13) (v := ?_) (a' := ?_) #[true, true, true, true, true, false, true, false, true, true, true, false, false, false, false, false, false, false, false, false, false] rfl rfl (take_ofW HT_.out HW_.out (by kernel_rfl)) (fun _ _ _ h => h) (Or.inl ⟨by rfl, ?_⟩) hHeld ?_ ?_
      rotate_left
      ·rintro w' ⟨s0, s1, s2, s3, s4, s5⟩
       go_simp
       with_reducible rfl
      rotate_left
      ·simp only [Act.put, List.setIfInBounds_toArray, List.set_cons_zero, List.set_cons_succ, i64_w, i32_w]
       rfl
      refine take_ (i := 7) (N := some 16) (v := ?_) (a' := ?_) #[true, true, true, true, true, false, true, true, true, true, true, false, false, false, false, false, false, false, false, false, false] rfl rfl (take_ofW HT_.out HW_.out (by kernel_rfl)) (fun _ _ _ h => h) (Or.inl ⟨by rfl, ?_⟩) hHeld ?_ ?_
      rotate_left
      ·rintro w' ⟨s0, s1, s2, s3, s4, s5⟩
       go_simp
       with_reducible rfl
      rotate_left
      ·simp only [Act.put, List.setIfInBounds_toArray, List.set_cons_zero, List.set_cons_succ, i64_w, i32_w]
       rfl
      refine take_ (i := 11) (N := some 20) (v := ?_) (a' := ?_) #[true, true, true, true, true, false, true, true, true, true, true, true, false, false, false, false, false, false, false, false, false] rfl rfl (take_ofW HT_.out HW_.out (by kernel_rfl)) (fun _ _ _ h => h) (Or.inl ⟨by rfl, ?_⟩) hHeld ?_ ?_
      rotate_left
      ·rintro w' ⟨s0, s1, s2, s3, s4, s5⟩
       go_simp
       with_reducible rfl
      rotate_left
      ·simp only [Act.put, List.setIfInBounds_toArray, List.set_cons_zero, List.set_cons_succ, i64_w, i32_w]
       rfl
      refine pure_ (i := 12) (N := some 21) (v := ?_) (a' := ?_) #[true, true, true, true, true, false, true, true, true, true, true, true, true, false, false, false, false, false, false, false, false] rfl rfl (any_of HT_.out (by kernel_rfl)) (fun _ _ _ h => h) (Or.inl ⟨by rfl, ?_⟩) ?_ ?_
      rotate_left
      ·intro w'
       go_simp
       with_reducible rfl
      rotate_left
      ·simp only [Act.put, List.setIfInBounds_toArray, List.set_cons_zero, List.set_cons_succ, i64_w, i32_w]
       rfl
      refine pure_ (i := 13) (N := some 22) (v := ?_) (a' := ?_) #[true, true, true, true, true, false, true, true, true, true, true, true, true, true, false, false, false, false, false, false, false] rfl rfl (any_of HT_.out (by kernel_rfl)) (fun _ _ _ h => h) (Or.inl ⟨by rfl, ?_⟩) ?_ ?_
      rotate_left
      ·intro w'
       go_simp
       with_reducible rfl
      rotate_left
      ·simp only [Act.put, List.setIfInBounds_toArray, List.set_cons_zero, List.set_cons_succ, i64_w, i32_w]
       rfl
      refine pure_ (i := 14) (N := some 23) (v := ?_) (a' := ?_) #[true, true, true, true, true, false, true, true, true, true, true, true, true, true, true, false, false, false, false, false, false] rfl rfl (any_of HT_.out (by kernel_rfl)) (fun _ _ _ h => h) (Or.inl ⟨by rfl, ?_⟩) ?_ ?_
      rotate_left
      ·intro w'
       go_simp
       with_reducible rfl
      rotate_left
      ·simp only [Act.put, List.setIfInBounds_toArray, List.set_cons_zero, List.set_cons_succ, i64_w, i32_w]
       rfl
      refine take_ (i := 15) (N := some 24) (v := ?_) (a' := ?_) #[true, true, true, true, true, false, true, true, true, true, true, true, true, true, true, true, false, false, false, false, false] rfl rfl (take_ofW HT_.out HW_.out (by kernel_rfl)) (fun _ _ _ h => h) (Or.inl ⟨by rfl, ?_⟩) hHeld ?_ ?_
      rotate_left
      ·rintro w' ⟨s0, s1, s2, s3, s4, s5⟩
       go_simp
       with_reducible rfl
      rotate_left
      ·simp only [Act.put, List.setIfInBounds_toArray, List.set_cons_zero, List.set_cons_succ, i64_w, i32_w]
       rfl
      refine join_ (σ := Nat × Nat) 2 #[true, true, true, true, true, true, true, true, true, true, true, true, true, true, true, true, true, true, true, false, false] (fun s_ => [(14, .agg #[.int .i64 t143, .int .i64 t144]), (25, .agg #[.int .i64 t146, .int .i64 t147]), (7, .pointer (some ⟨s_.1, 0, none⟩)), (8, .pointer (some ⟨s_.2, 0, none⟩))]) (fun s_ w' => (w'.cell? ⟨gb139, 0, none⟩ = some (.bool a0_0) ∧ w'.cell? ⟨gb139, 1, none⟩ = some (.slice (some ad142) l0_1.length c0_1) ∧ w'.cell? (ad142.add ((a1).toNat * 2)) = some (.int .i64 ((rd_T34 l0_1 a1).f0)) ∧ w'.cell? ⟨(ad142.add ((a1).toNat * 2)).block, (ad142.add ((a1).toNat * 2)).off + 1, none⟩ = some (.int .i64 ((rd_T34 l0_1 a1).f1)) ∧ w'.cell? (ad142.add (((ji7)).toNat * 2)) = some (.int .i64 ((rd_T34 l0_1 (ji7)).f0)) ∧ w'.cell? ⟨(ad142.add (((ji7)).toNat * 2)).block, (ad142.add (((ji7)).toNat * 2)).off + 1, none⟩ = some (.int .i64 ((rd_T34 l0_1 (ji7)).f1))) ∧ (w'.heap[gb139]? = some (.cells #[.bool a0_0, .slice (some ad142) l0_1.length c0_1] 39 (0, 0))) ∧ (w'.heap[gb140]? = some (.cells #[.int .i64 0, .int .i64 0] 34 (0, 0))) ∧ (w'.heap[gb141]? = some (.cells #[.int .i64 0, .int .i64 0] 34 (0, 0))) ∧ (w'.heap[s_.1]? = some (.cells #[.int .i64 0, .int .i64 0] 34 (0, 0))) ∧ (w'.heap[s_.2]? = some (.cells #[.int .i64 0, .int .i64 0] 34 (0, 0))) ∧ (w.heap.size ≤ s_.1) ∧ (w.heap.size ≤ s_.1) ∧ (gb139 ≠ s_.1) ∧ (s_.1 ≠ gb139) ∧ (gb140 ≠ s_.1) ∧ (s_.1 ≠ gb140) ∧ (gb141 ≠ s_.1) ∧ (s_.1 ≠ gb141) ∧ (s_.2 ≠ s_.1) ∧ (s_.1 ≠ s_.2) ∧ (w.heap.size ≤ s_.2) ∧ (w.heap.size ≤ s_.2) ∧ (gb139 ≠ s_.2) ∧ (s_.2 ≠ gb139) ∧ (gb140 ≠ s_.2) ∧ (s_.2 ≠ gb140) ∧ (gb141 ≠ s_.2) ∧ (s_.2 ≠ gb141) ∧ (Below w.heap.size w w')) ?_ ?_
      rotate_left
      ·intro hJ5_16_17_18
       refine join_ (σ := Nat) 3 #[true, true, true, true, true, true, true, true, true, true, true, true, true, true, true, true, true, true, false, false, false] (fun s_ => [(14, .agg #[.int .i64 t143, .int .i64 t144]), (25, .agg #[.int .i64 t146, .int .i64 t147]), (7, .pointer (some ⟨s_, 0, none⟩))]) (fun s_ w' => (w'.cell? ⟨gb139, 0, none⟩ = some (.bool a0_0) ∧ w'.cell? ⟨gb139, 1, none⟩ = some (.slice (some ad142) l0_1.length c0_1) ∧ w'.cell? (ad142.add ((a1).toNat * 2)) = some (.int .i64 ((rd_T34 l0_1 a1).f0)) ∧ w'.cell? ⟨(ad142.add ((a1).toNat * 2)).block, (ad142.add ((a1).toNat * 2)).off + 1, none⟩ = some (.int .i64 ((rd_T34 l0_1 a1).f1)) ∧ w'.cell? (ad142.add (((ji7)).toNat * 2)) = some (.int .i64 ((rd_T34 l0_1 (ji7)).f0)) ∧ w'.cell? ⟨(ad142.add (((ji7)).toNat * 2)).block, (ad142.add (((ji7)).toNat * 2)).off + 1, none⟩ = some (.int .i64 ((rd_T34 l0_1 (ji7)).f1))) ∧ (w'.heap[gb139]? = some (.cells #[.bool a0_0, .slice (some ad142) l0_1.length c0_1] 39 (0, 0))) ∧ (w'.heap[gb140]? = some (.cells #[.int .i64 0, .int .i64 0] 34 (0, 0))) ∧ (w'.heap[gb141]? = some (.cells #[.int .i64 0, .int .i64 0] 34 (0, 0))) ∧ (w'.heap[s_]? = some (.cells #[.int .i64 0, .int .i64 0] 34 (0, 0))) ∧ (w.heap.size ≤ s_) ∧ (w.heap.size ≤ s_) ∧ (gb139 ≠ s_) ∧ (s_ ≠ gb139) ∧ (gb140 ≠ s_) ∧ (s_ ≠ gb140) ∧ (gb141 ≠ s_) ∧ (s_ ≠ gb141) ∧ (Below w.heap.size w w')) ?_ ?_
       rotate_left
       ·intro hJ5_16_17
        refine join_ (σ := Nat) 3 #[true, true, true, true, true, true, true, true, true, true, true, true, true, true, true, true, true, false, true, false, false] (fun s_ => [(14, .agg #[.int .i64 t143, .int .i64 t144]), (25, .agg #[.int .i64 t146, .int .i64 t147]), (8, .pointer (some ⟨s_, 0, none⟩))]) (fun s_ w' => (w'.cell? ⟨gb139, 0, none⟩ = some (.bool a0_0) ∧ w'.cell? ⟨gb139, 1, none⟩ = some (.slice (some ad142) l0_1.length c0_1) ∧ w'.cell? (ad142.add ((a1).toNat * 2)) = some (.int .i64 ((rd_T34 l0_1 a1).f0)) ∧ w'.cell? ⟨(ad142.add ((a1).toNat * 2)).block, (ad142.add ((a1).toNat * 2)).off + 1, none⟩ = some (.int .i64 ((rd_T34 l0_1 a1).f1)) ∧ w'.cell? (ad142.add (((ji7)).toNat * 2)) = some (.int .i64 ((rd_T34 l0_1 (ji7)).f0)) ∧ w'.cell? ⟨(ad142.add (((ji7)).toNat * 2)).block, (ad142.add (((ji7)).toNat * 2)).off + 1, none⟩ = some (.int .i64 ((rd_T34 l0_1 (ji7)).f1))) ∧ (w'.heap[gb139]? = some (.cells #[.bool a0_0, .slice (some ad142) l0_1.length c0_1] 39 (0, 0))) ∧ (w'.heap[gb140]? = some (.cells #[.int .i64 0, .int .i64 0] 34 (0, 0))) ∧ (w'.heap[gb141]? = some (.cells #[.int .i64 0, .int .i64 0] 34 (0, 0))) ∧ (w'.heap[s_]? = some (.cells #[.int .i64 0, .int .i64 0] 34 (0, 0))) ∧ (w.heap.size ≤ s_) ∧ (w.heap.size ≤ s_) ∧ (gb139 ≠ s_) ∧ (s_ ≠ gb139) ∧ (gb140 ≠ s_) ∧ (s_ ≠ gb140) ∧ (gb141 ≠ s_) ∧ (s_ ≠ gb141) ∧ (Below w.heap.size w w')) ?_ ?_
        rotate_left
        ·intro hJ5_16_18
         refine join_ (σ := Nat × Nat) 3 #[true, true, true, true, true, true, true, true, true, true, true, true, true, true, true, true, false, true, true, false, false] (fun s_ => [(14, .agg #[.int .i64 t143, .int .i64 t144]), (7, .pointer (some ⟨s_.1, 0, none⟩)), (8, .pointer (some ⟨s_.2, 0, none⟩))]) (fun s_ w' => (w'.cell? ⟨gb139, 0, none⟩ = some (.bool a0_0) ∧ w'.cell? ⟨gb139, 1, none⟩ = some (.slice (some ad142) l0_1.length c0_1) ∧ w'.cell? (ad142.add ((a1).toNat * 2)) = some (.int .i64 ((rd_T34 l0_1 a1).f0)) ∧ w'.cell? ⟨(ad142.add ((a1).toNat * 2)).block, (ad142.add ((a1).toNat * 2)).off + 1, none⟩ = some (.int .i64 ((rd_T34 l0_1 a1).f1)) ∧ w'.cell? (ad142.add (((ji7)).toNat * 2)) = some (.int .i64 ((rd_T34 l0_1 (ji7)).f0)) ∧ w'.cell? ⟨(ad142.add (((ji7)).toNat * 2)).block, (ad142.add (((ji7)).toNat * 2)).off + 1, none⟩ = some (.int .i64 ((rd_T34 l0_1 (ji7)).f1))) ∧ (w'.heap[gb139]? = some (.cells #[.bool a0_0, .slice (some ad142) l0_1.length c0_1] 39 (0, 0))) ∧ (w'.heap[gb140]? = some (.cells #[.int .i64 0, .int .i64 0] 34 (0, 0))) ∧ (w'.heap[gb141]? = some (.cells #[.int .i64 0, .int .i64 0] 34 (0, 0))) ∧ (w'.heap[s_.1]? = some (.cells #[.int .i64 0, .int .i64 0] 34 (0, 0))) ∧ (w'.heap[s_.2]? = some (.cells #[.int .i64 0, .int .i64 0] 34 (0, 0))) ∧ (w.heap.size ≤ s_.1) ∧ (w.heap.size ≤ s_.1) ∧ (gb139 ≠ s_.1) ∧ (s_.1 ≠ gb139) ∧ (gb140 ≠ s_.1) ∧ (s_.1 ≠ gb140) ∧ (gb141 ≠ s_.1) ∧ (s_.1 ≠ gb141) ∧ (s_.2 ≠ s_.1) ∧ (s_.1 ≠ s_.2) ∧ (w.heap.size ≤ s_.2) ∧ (w.heap.size ≤ s_.2) ∧ (gb139 ≠ s_.2) ∧ (s_.2 ≠ gb139) ∧ (gb140 ≠ s_.2) ∧ (s_.2 ≠ gb140) ∧ (gb141 ≠ s_.2) ∧ (s_.2 ≠ gb141) ∧ (Below w.heap.size w w')) ?_ ?_
         rotate_left
         ·intro hJ5_17_18
          refine join_ (σ := Unit) 4 #[true, true, true, true, true, true, true, true, true, true, true, true, true, true, true, true, true, false, false, false, false] (fun s_ => [(14, .agg #[.int .i64 t143, .int .i64 t144]), (25, .agg #[.int .i64 t146, .int .i64 t147])]) (fun s_ w' => (w'.cell? ⟨gb139, 0, none⟩ = some (.bool a0_0) ∧ w'.cell? ⟨gb139, 1, none⟩ = some (.slice (some ad142) l0_1.length c0_1) ∧ w'.cell? (ad142.add ((a1).toNat * 2)) = some (.int .i64 ((rd_T34 l0_1 a1).f0)) ∧ w'.cell? ⟨(ad142.add ((a1).toNat * 2)).block, (ad142.add ((a1).toNat * 2)).off + 1, none⟩ = some (.int .i64 ((rd_T34 l0_1 a1).f1)) ∧ w'.cell? (ad142.add (((ji7)).toNat * 2)) = some (.int .i64 ((rd_T34 l0_1 (ji7)).f0)) ∧ w'.cell? ⟨(ad142.add (((ji7)).toNat * 2)).block, (ad142.add (((ji7)).toNat * 2)).off + 1, none⟩ = some (.int .i64 ((rd_T34 l0_1 (ji7)).f1))) ∧ (w'.heap[gb139]? = some (.cells #[.bool a0_0, .slice (some ad142) l0_1.length c0_1] 39 (0, 0))) ∧ (w'.heap[gb140]? = some (.cells #[.int .i64 0, .int .i64 0] 34 (0, 0))) ∧ (w'.heap[gb141]? = some (.cells #[.int .i64 0, .int .i64 0] 34 (0, 0))) ∧ (Below w.heap.size w w')) ?_ ?_
          rotate_left
          ·intro hJ5_16
           refine join_ (σ := Nat) 4 #[true, true, true, true, true, true, true, true, true, true, true, true, true, true, true, true, false, true, false, false, false] (fun s_ => [(14, .agg #[.int .i64 t143, .int .i64 t144]), (7, .pointer (some ⟨s_, 0, none⟩))]) (fun s_ w' => (w'.cell? ⟨gb139, 0, none⟩ = some (.bool a0_0) ∧ w'.cell? ⟨gb139, 1, none⟩ = some (.slice (some ad142) l0_1.length c0_1) ∧ w'.cell? (ad142.add ((a1).toNat * 2)) = some (.int .i64 ((rd_T34 l0_1 a1).f0)) ∧ w'.cell? ⟨(ad142.add ((a1).toNat * 2)).block, (ad142.add ((a1).toNat * 2)).off + 1, none⟩ = some (.int .i64 ((rd_T34 l0_1 a1).f1)) ∧ w'.cell? (ad142.add (((ji7)).toNat * 2)) = some (.int .i64 ((rd_T34 l0_1 (ji7)).f0)) ∧ w'.cell? ⟨(ad142.add (((ji7)).toNat * 2)).block, (ad142.add (((ji7)).toNat * 2)).off + 1, none⟩ = some (.int .i64 ((rd_T34 l0_1 (ji7)).f1))) ∧ (w'.heap[gb139]? = some (.cells #[.bool a0_0, .slice (some ad142) l0_1.length c0_1] 39 (0, 0))) ∧ (w'.heap[gb140]? = some (.cells #[.int .i64 0, .int .i64 0] 34 (0, 0))) ∧ (w'.heap[gb141]? = some (.cells #[.int .i64 0, .int .i64 0] 34 (0, 0))) ∧ (w'.heap[s_]? = some (.cells #[.int .i64 0, .int .i64 0] 34 (0, 0))) ∧ (w.heap.size ≤ s_) ∧ (w.heap.size ≤ s_) ∧ (gb139 ≠ s_) ∧ (s_ ≠ gb139) ∧ (gb140 ≠ s_) ∧ (s_ ≠ gb140) ∧ (gb141 ≠ s_) ∧ (s_ ≠ gb141) ∧ (Below w.heap.size w w')) ?_ ?_
           rotate_left
           ·intro hJ5_17
            refine join_ (σ := Nat) 4 #[true, true, true, true, true, true, true, true, true, true, true, true, true, true, true, true, false, false, true, false, false] (fun s_ => [(14, .agg #[.int .i64 t143, .int .i64 t144]), (8, .pointer (some ⟨s_, 0, none⟩))]) (fun s_ w' => (w'.cell? ⟨gb139, 0, none⟩ = some (.bool a0_0) ∧ w'.cell? ⟨gb139, 1, none⟩ = some (.slice (some ad142) l0_1.length c0_1) ∧ w'.cell? (ad142.add ((a1).toNat * 2)) = some (.int .i64 ((rd_T34 l0_1 a1).f0)) ∧ w'.cell? ⟨(ad142.add ((a1).toNat * 2)).block, (ad142.add ((a1).toNat * 2)).off + 1, none⟩ = some (.int .i64 ((rd_T34 l0_1 a1).f1)) ∧ w'.cell? (ad142.add (((ji7)).toNat * 2)) = some (.int .i64 ((rd_T34 l0_1 (ji7)).f0)) ∧ w'.cell? ⟨(ad142.add (((ji7)).toNat * 2)).block, (ad142.add (((ji7)).toNat * 2)).off + 1, none⟩ = some (.int .i64 ((rd_T34 l0_1 (ji7)).f1))) ∧ (w'.heap[gb139]? = some (.cells #[.bool a0_0, .slice (some ad142) l0_1.length c0_1] 39 (0, 0))) ∧ (w'.heap[gb140]? = some (.cells #[.int .i64 0, .int .i64 0] 34 (0, 0))) ∧ (w'.heap[gb141]? = some (.cells #[.int .i64 0, .int .i64 0] 34 (0, 0))) ∧ (w'.heap[s_]? = some (.cells #[.int .i64 0, .int .i64 0] 34 (0, 0))) ∧ (w.heap.size ≤ s_) ∧ (w.heap.size ≤ s_) ∧ (gb139 ≠ s_) ∧ (s_ ≠ gb139) ∧ (gb140 ≠ s_) ∧ (s_ ≠ gb140) ∧ (gb141 ≠ s_) ∧ (s_ ≠ gb141) ∧ (Below w.heap.size w w')) ?_ ?_
            rotate_left
            ·intro hJ5_18
             refine join_ (σ := Nat × Nat) 4 #[true, true, true, true, true, false, true, true, true, true, true, true, true, true, true, true, false, true, true, false, false] (fun s_ => [(7, .pointer (some ⟨s_.1, 0, none⟩)), (8, .pointer (some ⟨s_.2, 0, none⟩))]) (fun s_ w' => (w'.cell? ⟨gb139, 0, none⟩ = some (.bool a0_0) ∧ w'.cell? ⟨gb139, 1, none⟩ = some (.slice (some ad142) l0_1.length c0_1) ∧ w'.cell? (ad142.add ((a1).toNat * 2)) = some (.int .i64 ((rd_T34 l0_1 a1).f0)) ∧ w'.cell? ⟨(ad142.add ((a1).toNat * 2)).block, (ad142.add ((a1).toNat * 2)).off + 1, none⟩ = some (.int .i64 ((rd_T34 l0_1 a1).f1)) ∧ w'.cell? (ad142.add (((ji7)).toNat * 2)) = some (.int .i64 ((rd_T34 l0_1 (ji7)).f0)) ∧ w'.cell? ⟨(ad142.add (((ji7)).toNat * 2)).block, (ad142.add (((ji7)).toNat * 2)).off + 1, none⟩ = some (.int .i64 ((rd_T34 l0_1 (ji7)).f1))) ∧ (w'.heap[gb139]? = some (.cells #[.bool a0_0, .slice (some ad142) l0_1.length c0_1] 39 (0, 0))) ∧ (w'.heap[gb140]? = some (.cells #[.int .i64 0, .int .i64 0] 34 (0, 0))) ∧ (w'.heap[gb141]? = some (.cells #[.int .i64 0, .int .i64 0] 34 (0, 0))) ∧ (w'.heap[s_.1]? = some (.cells #[.int .i64 0, .int .i64 0] 34 (0, 0))) ∧ (w'.heap[s_.2]? = some (.cells #[.int .i64 0, .int .i64 0] 34 (0, 0))) ∧ (w.heap.size ≤ s_.1) ∧ (w.heap.size ≤ s_.1) ∧ (gb139 ≠ s_.1) ∧ (s_.1 ≠ gb139) ∧ (gb140 ≠ s_.1) ∧ (s_.1 ≠ gb140) ∧ (gb141 ≠ s_.1) ∧ (s_.1 ≠ gb141) ∧ (s_.2 ≠ s_.1) ∧ (s_.1 ≠ s_.2) ∧ (w.heap.size ≤ s_.2) ∧ (w.heap.size ≤ s_.2) ∧ (gb139 ≠ s_.2) ∧ (s_.2 ≠ gb139) ∧ (gb140 ≠ s_.2) ∧ (s_.2 ≠ gb140) ∧ (gb141 ≠ s_.2) ∧ (s_.2 ≠ gb141) ∧ (Below w.heap.size w w')) ?_ ?_
             rotate_left
             ·intro hJ17_18
              refine join_ (σ := Unit) 5 #[true, true, true, true, true, true, true, true, true, true, true, true, true, true, true, true, false, false, false, false, false] (fun s_ => [(14, .agg #[.int .i64 t143, .int .i64 t144])]) (fun s_ w' => (w'.cell? ⟨gb139, 0, none⟩ = some (.bool a0_0) ∧ w'.cell? ⟨gb139, 1, none⟩ = some (.slice (some ad142) l0_1.length c0_1) ∧ w'.cell? (ad142.add ((a1).toNat * 2)) = some (.int .i64 ((rd_T34 l0_1 a1).f0)) ∧ w'.cell? ⟨(ad142.add ((a1).toNat * 2)).block, (ad142.add ((a1).toNat * 2)).off + 1, none⟩ = some (.int .i64 ((rd_T34 l0_1 a1).f1)) ∧ w'.cell? (ad142.add (((ji7)).toNat * 2)) = some (.int .i64 ((rd_T34 l0_1 (ji7)).f0)) ∧ w'.cell? ⟨(ad142.add (((ji7)).toNat * 2)).block, (ad142.add (((ji7)).toNat * 2)).off + 1, none⟩ = some (.int .i64 ((rd_T34 l0_1 (ji7)).f1))) ∧ (w'.heap[gb139]? = some (.cells #[.bool a0_0, .slice (some ad142) l0_1.length c0_1] 39 (0, 0))) ∧ (w'.heap[gb140]? = some (.cells #[.int .i64 0, .int .i64 0] 34 (0, 0))) ∧ (w'.heap[gb141]? = some (.cells #[.int .i64 0, .int .i64 0] 34 (0, 0))) ∧ (Below w.heap.size w w')) ?_ ?_
              rotate_left
              ·intro hJ5
               refine join_ (σ := Nat) 5 #[true, true, true, true, true, false, true, true, true, true, true, true, true, true, true, true, false, true, false, false, false] (fun s_ => [(7, .pointer (some ⟨s_, 0, none⟩))]) (fun s_ w' => (w'.cell? ⟨gb139, 0, none⟩ = some (.bool a0_0) ∧ w'.cell? ⟨gb139, 1, none⟩ = some (.slice (some ad142) l0_1.length c0_1) ∧ w'.cell? (ad142.add ((a1).toNat * 2)) = some (.int .i64 ((rd_T34 l0_1 a1).f0)) ∧ w'.cell? ⟨(ad142.add ((a1).toNat * 2)).block, (ad142.add ((a1).toNat * 2)).off + 1, none⟩ = some (.int .i64 ((rd_T34 l0_1 a1).f1)) ∧ w'.cell? (ad142.add (((ji7)).toNat * 2)) = some (.int .i64 ((rd_T34 l0_1 (ji7)).f0)) ∧ w'.cell? ⟨(ad142.add (((ji7)).toNat * 2)).block, (ad142.add (((ji7)).toNat * 2)).off + 1, none⟩ = some (.int .i64 ((rd_T34 l0_1 (ji7)).f1))) ∧ (w'.heap[gb139]? = some (.cells #[.bool a0_0, .slice (some ad142) l0_1.length c0_1] 39 (0, 0))) ∧ (w'.heap[gb140]? = some (.cells #[.int .i64 0, .int .i64 0] 34 (0, 0))) ∧ (w'.heap[gb141]? = some (.cells #[.int .i64 0, .int .i64 0] 34 (0, 0))) ∧ (w'.heap[s_]? = some (.cells #[.int .i64 0, .int .i64 0] 34 (0, 0))) ∧ (w.heap.size ≤ s_) ∧ (w.heap.size ≤ s_) ∧ (gb139 ≠ s_) ∧ (s_ ≠ gb139) ∧ (gb140 ≠ s_) ∧ (s_ ≠ gb140) ∧ (gb141 ≠ s_) ∧ (s_ ≠ gb141) ∧ (Below w.heap.size w w')) ?_ ?_
               rotate_left
               ·intro hJ17
                refine join_ (σ := Nat) 5 #[true, true, true, true, true, false, true, true, true, true, true, true, true, true, true, true, false, false, true, false, false] (fun s_ => [(8, .pointer (some ⟨s_, 0, none⟩))]) (fun s_ w' => (w'.cell? ⟨gb139, 0, none⟩ = some (.bool a0_0) ∧ w'.cell? ⟨gb139, 1, none⟩ = some (.slice (some ad142) l0_1.length c0_1) ∧ w'.cell? (ad142.add ((a1).toNat * 2)) = some (.int .i64 ((rd_T34 l0_1 a1).f0)) ∧ w'.cell? ⟨(ad142.add ((a1).toNat * 2)).block, (ad142.add ((a1).toNat * 2)).off + 1, none⟩ = some (.int .i64 ((rd_T34 l0_1 a1).f1)) ∧ w'.cell? (ad142.add (((ji7)).toNat * 2)) = some (.int .i64 ((rd_T34 l0_1 (ji7)).f0)) ∧ w'.cell? ⟨(ad142.add (((ji7)).toNat * 2)).block, (ad142.add (((ji7)).toNat * 2)).off + 1, none⟩ = some (.int .i64 ((rd_T34 l0_1 (ji7)).f1))) ∧ (w'.heap[gb139]? = some (.cells #[.bool a0_0, .slice (some ad142) l0_1.length c0_1] 39 (0, 0))) ∧ (w'.heap[gb140]? = some (.cells #[.int .i64 0, .int .i64 0] 34 (0, 0))) ∧ (w'.heap[gb141]? = some (.cells #[.int .i64 0, .int .i64 0] 34 (0, 0))) ∧ (w'.heap[s_]? = some (.cells #[.int .i64 0, .int .i64 0] 34 (0, 0))) ∧ (w.heap.size ≤ s_) ∧ (w.heap.size ≤ s_) ∧ (gb139 ≠ s_) ∧ (s_ ≠ gb139) ∧ (gb140 ≠ s_) ∧ (s_ ≠ gb140) ∧ (gb141 ≠ s_) ∧ (s_ ≠ gb141) ∧ (Below w.heap.size w w')) ?_ ?_
                rotate_left
                ·intro hJ18
                 refine three_ (i := 5) (j := 17) (k := 18) (Ni := some 14) (Nj := some 7) (Nk := some 8) #[true, true, true, true, true, true, true, true, true, true, true, true, true, true, true, true, false, false, false, false, false] #[true, true, true, true, true, false, true, true, true, true, true, true, true, true, true, true, false, true, false, false, false] #[true, true, true, true, true, false, true, true, true, true, true, true, true, true, true, true, false, false, true, false, false] rfl rfl rfl rfl rfl rfl (three_of HT_.out (by kernel_rfl)) (by decide) (by decide) (by decide) (fun K hK => ?_) (fun K hK => ?_) (fun K hK => ?_)
                 ·skip
                  refine goes_ Try.func71 (by kernel_rfl) rfl #[.agg #[.int .i64 ((rd_T34 l0_1 a1).f0), .int .i64 ((rd_T34 l0_1 a1).f1)]] (by rfl) rfl rfl (by (try simp only [List.map_toArray, List.map_cons, List.map_nil]); first | done | rfl | (simp only [List.length_drop, List.length_take]; rfl)) ?_
                  with_reducible refine (arc_place.calls ((rd_T34 l0_1 a1).f0) ((rd_T34 l0_1 a1).f1) t143 t144 _ A5.out).mono ?_
                  rintro e w16 ⟨rfl, hb⟩
                  refine ⟨_, rfl, ?_⟩
                  have n0_ := Aside0.mk (blk_below (g := gb139) (o := .cells #[.bool a0_0, .slice (some ad142) l0_1.length c0_1] 39 (0, 0)) (by (with_reducible repeat (first | refine blk_drewN ?_ _ | refine blk_drew ?_ | refine blk_alloc ?_ _)); exact BK139.out) hb)
                  have n1_ := Aside0.mk (blk_below (g := gb140) (o := .cells #[.int .i64 0, .int .i64 0] 34 (0, 0)) (by (with_reducible repeat (first | refine blk_drewN ?_ _ | refine blk_drew ?_ | refine blk_alloc ?_ _)); exact BK140.out) hb)
                  have n2_ := Aside0.mk (blk_below (g := gb141) (o := .cells #[.int .i64 0, .int .i64 0] 34 (0, 0)) (by (with_reducible repeat (first | refine blk_drewN ?_ _ | refine blk_drew ?_ | refine blk_alloc ?_ _)); exact BK141.out) hb)
                  have n3_ := Aside0.mk (below_step (by repeat (first | (with_reducible first | exact HB.out | apply below_alloc | apply pw_below_drewN | apply below_drew1 | refine below_set ?_ GE139.out | refine below_set ?_ GE140.out | refine below_set ?_ GE141.out) | exact HB.out)) hb)
                  clear BK139
                  clear BK140
                  clear BK141
                  clear HB
                  have BK139 := n0_
                  have BK140 := n1_
                  have BK141 := n2_
                  have HB := n3_
                  clear n0_ n1_ n2_ n3_
                  (try clear hb)
                  (try clear hb2)
                  (try clear hk)
                  (try clear hi)
                  refine hK.out _ _ ⟨(blk_cell BK139.out 0).trans rfl, (blk_cell BK139.out 1).trans rfl, ((HB.out.cell (World.block_lt_of_cell? w _ hw142_0)).trans hw142_0), ((HB.out.cell (World.block_lt_of_cell? w _ hw142_1)).trans hw142_1), ((HB.out.cell (World.block_lt_of_cell? w _ hw145_0)).trans hw145_0), ((HB.out.cell (World.block_lt_of_cell? w _ hw145_1)).trans hw145_1)⟩ (fun hHeld => ?_)
                  clear hK K
                  refine norm_ (a' := ?_) ?_ ?_
                  rotate_left
                  ·show Act.put _ (some 14) _ = _
                   simp only [Act.put, List.setIfInBounds_toArray, List.set_cons_zero, List.set_cons_succ, i64_w, i32_w]
                   rfl
                  exact norm_ (by first | (simp only [putAll, Act.put, List.setIfInBounds_toArray, List.set_cons_zero, List.set_cons_succ]; done) | (simp only [putAll, Act.put, List.setIfInBounds_toArray, List.set_cons_zero, List.set_cons_succ]; rfl)) (hJ5 () _ ⟨hHeld, (by (with_reducible repeat (first | refine blk_drewN ?_ _ | refine blk_drew ?_ | refine blk_alloc ?_ _)); exact BK139.out), (by (with_reducible repeat (first | refine blk_drewN ?_ _ | refine blk_drew ?_ | refine blk_alloc ?_ _)); exact BK140.out), (by (with_reducible repeat (first | refine blk_drewN ?_ _ | refine blk_drew ?_ | refine blk_alloc ?_ _)); exact BK141.out), (by repeat (first | (with_reducible first | exact HB.out | apply below_alloc | apply pw_below_drewN | apply below_drew1 | refine below_set ?_ GE139.out | refine below_set ?_ GE140.out | refine below_set ?_ GE141.out) | exact HB.out))⟩)
                 ·skip
                  refine box_step ?hg (N := 7) ?hd (cs := #[.int .i64 0, .int .i64 0]) (t := 34) ?hr ?_; (case hd => rfl); (case hg => rfl); (case hr => first | (go_simp; done) | (go_simp; rfl))
                  intro gb148 hg w16 hbox hb
                  have n0_ := Aside0.mk (blk_below (g := gb139) (o := .cells #[.bool a0_0, .slice (some ad142) l0_1.length c0_1] 39 (0, 0)) (by (with_reducible repeat (first | refine blk_drewN ?_ _ | refine blk_drew ?_ | refine blk_alloc ?_ _)); exact BK139.out) hb)
                  have n1_ := Aside0.mk (blk_below (g := gb140) (o := .cells #[.int .i64 0, .int .i64 0] 34 (0, 0)) (by (with_reducible repeat (first | refine blk_drewN ?_ _ | refine blk_drew ?_ | refine blk_alloc ?_ _)); exact BK140.out) hb)
                  have n2_ := Aside0.mk (blk_below (g := gb141) (o := .cells #[.int .i64 0, .int .i64 0] 34 (0, 0)) (by (with_reducible repeat (first | refine blk_drewN ?_ _ | refine blk_drew ?_ | refine blk_alloc ?_ _)); exact BK141.out) hb)
                  have n3_ := Aside0.mk (below_step (by repeat (first | (with_reducible first | exact HB.out | apply below_alloc | apply pw_below_drewN | apply below_drew1 | refine below_set ?_ GE139.out | refine below_set ?_ GE140.out | refine below_set ?_ GE141.out) | exact HB.out)) hb)
                  have n4_ := Aside0.mk (hbox)
                  have n5_ := Aside0.mk ((by rw [hg]; exact (below_size (by repeat (first | (with_reducible first | exact HB.out | apply below_alloc | apply pw_below_drewN | apply below_drew1 | refine below_set ?_ GE139.out | refine below_set ?_ GE140.out | refine below_set ?_ GE141.out) | exact HB.out))) : w.heap.size ≤ gb148))
                  have n6_ := Aside0.mk ((by rw [hg]; exact (below_size (by repeat (first | (with_reducible first | exact HB.out | apply below_alloc | apply pw_below_drewN | apply below_drew1 | refine below_set ?_ GE139.out | refine below_set ?_ GE140.out | refine below_set ?_ GE141.out) | exact HB.out))) : w.heap.size ≤ gb148))
                  have n7_ := Aside0.mk ((by rw [hg]; exact Nat.ne_of_lt (blk_lt (g := gb139) (o := .cells #[.bool a0_0, .slice (some ad142) l0_1.length c0_1] 39 (0, 0)) (by (with_reducible repeat (first | refine blk_drewN ?_ _ | refine blk_drew ?_ | refine blk_alloc ?_ _)); exact BK139.out)) : gb139 ≠ gb148))
                  have n8_ := Aside0.mk ((by rw [hg]; exact Nat.ne_of_gt (blk_lt (g := gb139) (o := .cells #[.bool a0_0, .slice (some ad142) l0_1.length c0_1] 39 (0, 0)) (by (with_reducible repeat (first | refine blk_drewN ?_ _ | refine blk_drew ?_ | refine blk_alloc ?_ _)); exact BK139.out)) : gb148 ≠ gb139))
                  have n9_ := Aside0.mk ((by rw [hg]; exact Nat.ne_of_lt (blk_lt (g := gb140) (o := .cells #[.int .i64 0, .int .i64 0] 34 (0, 0)) (by (with_reducible repeat (first | refine blk_drewN ?_ _ | refine blk_drew ?_ | refine blk_alloc ?_ _)); exact BK140.out)) : gb140 ≠ gb148))
                  have n10_ := Aside0.mk ((by rw [hg]; exact Nat.ne_of_gt (blk_lt (g := gb140) (o := .cells #[.int .i64 0, .int .i64 0] 34 (0, 0)) (by (with_reducible repeat (first | refine blk_drewN ?_ _ | refine blk_drew ?_ | refine blk_alloc ?_ _)); exact BK140.out)) : gb148 ≠ gb140))
                  have n11_ := Aside0.mk ((by rw [hg]; exact Nat.ne_of_lt (blk_lt (g := gb141) (o := .cells #[.int .i64 0, .int .i64 0] 34 (0, 0)) (by (with_reducible repeat (first | refine blk_drewN ?_ _ | refine blk_drew ?_ | refine blk_alloc ?_ _)); exact BK141.out)) : gb141 ≠ gb148))
                  have n12_ := Aside0.mk ((by rw [hg]; exact Nat.ne_of_gt (blk_lt (g := gb141) (o := .cells #[.int .i64 0, .int .i64 0] 34 (0, 0)) (by (with_reducible repeat (first | refine blk_drewN ?_ _ | refine blk_drew ?_ | refine blk_alloc ?_ _)); exact BK141.out)) : gb148 ≠ gb141))
                  clear BK139
                  clear BK140
                  clear BK141
                  clear HB
                  have BK139 := n0_
                  have BK140 := n1_
                  have BK141 := n2_
                  have HB := n3_
                  have BK148 := n4_
                  have GW148 := n5_
                  have GE148 := n6_
                  have NB139_148 := n7_
                  have NB148_139 := n8_
                  have NB140_148 := n9_
                  have NB148_140 := n10_
                  have NB141_148 := n11_
                  have NB148_141 := n12_
                  clear n0_ n1_ n2_ n3_ n4_ n5_ n6_ n7_ n8_ n9_ n10_ n11_ n12_
                  clear hb hbox hg
                  refine hK.out _ _ ⟨(blk_cell BK139.out 0).trans rfl, (blk_cell BK139.out 1).trans rfl, ((HB.out.cell (World.block_lt_of_cell? w _ hw142_0)).trans hw142_0), ((HB.out.cell (World.block_lt_of_cell? w _ hw142_1)).trans hw142_1), ((HB.out.cell (World.block_lt_of_cell? w _ hw145_0)).trans hw145_0), ((HB.out.cell (World.block_lt_of_cell? w _ hw145_1)).trans hw145_1)⟩ (fun hHeld => ?_)
                  clear hK K
                  refine norm_ (a' := ?_) ?_ ?_
                  rotate_left
                  ·show Act.put _ (some 7) _ = _
                   simp only [Act.put, List.setIfInBounds_toArray, List.set_cons_zero, List.set_cons_succ, i64_w, i32_w]
                   rfl
                  exact norm_ (by first | (simp only [putAll, Act.put, List.setIfInBounds_toArray, List.set_cons_zero, List.set_cons_succ]; done) | (simp only [putAll, Act.put, List.setIfInBounds_toArray, List.set_cons_zero, List.set_cons_succ]; rfl)) (hJ17 (gb148) _ ⟨hHeld, (by (with_reducible repeat (first | refine blk_drewN ?_ _ | refine blk_drew ?_ | refine blk_alloc ?_ _)); exact BK139.out), (by (with_reducible repeat (first | refine blk_drewN ?_ _ | refine blk_drew ?_ | refine blk_alloc ?_ _)); exact BK140.out), (by (with_reducible repeat (first | refine blk_drewN ?_ _ | refine blk_drew ?_ | refine blk_alloc ?_ _)); exact BK141.out), (by (with_reducible repeat (first | refine blk_drewN ?_ _ | refine blk_drew ?_ | refine blk_alloc ?_ _)); exact BK148.out), GW148.out, GE148.out, NB139_148.out, NB148_139.out, NB140_148.out, NB148_140.out, NB141_148.out, NB148_141.out, (by repeat (first | (with_reducible first | exact HB.out | apply below_alloc | apply pw_below_drewN | apply below_drew1 | refine below_set ?_ GE139.out | refine below_set ?_ GE140.out | refine below_set ?_ GE141.out | refine below_set ?_ GE148.out) | exact HB.out))⟩)
                 ·skip
                  refine box_step ?hg (N := 8) ?hd (cs := #[.int .i64 0, .int .i64 0]) (t := 34) ?hr ?_; (case hd => rfl); (case hg => rfl); (case hr => first | (go_simp; done) | (go_simp; rfl))
                  intro gb149 hg w16 hbox hb
                  have n0_ := Aside0.mk (blk_below (g := gb139) (o := .cells #[.bool a0_0, .slice (some ad142) l0_1.length c0_1] 39 (0, 0)) (by (with_reducible repeat (first | refine blk_drewN ?_ _ | refine blk_drew ?_ | refine blk_alloc ?_ _)); exact BK139.out) hb)
                  have n1_ := Aside0.mk (blk_below (g := gb140) (o := .cells #[.int .i64 0, .int .i64 0] 34 (0, 0)) (by (with_reducible repeat (first | refine blk_drewN ?_ _ | refine blk_drew ?_ | refine blk_alloc ?_ _)); exact BK140.out) hb)
                  have n2_ := Aside0.mk (blk_below (g := gb141) (o := .cells #[.int .i64 0, .int .i64 0] 34 (0, 0)) (by (with_reducible repeat (first | refine blk_drewN ?_ _ | refine blk_drew ?_ | refine blk_alloc ?_ _)); exact BK141.out) hb)
                  have n3_ := Aside0.mk (below_step (by repeat (first | (with_reducible first | exact HB.out | apply below_alloc | apply pw_below_drewN | apply below_drew1 | refine below_set ?_ GE139.out | refine below_set ?_ GE140.out | refine below_set ?_ GE141.out) | exact HB.out)) hb)
                  have n4_ := Aside0.mk (hbox)
                  have n5_ := Aside0.mk ((by rw [hg]; exact (below_size (by repeat (first | (with_reducible first | exact HB.out | apply below_alloc | apply pw_below_drewN | apply below_drew1 | refine below_set ?_ GE139.out | refine below_set ?_ GE140.out | refine below_set ?_ GE141.out) | exact HB.out))) : w.heap.size ≤ gb149))
                  have n6_ := Aside0.mk ((by rw [hg]; exact (below_size (by repeat (first | (with_reducible first | exact HB.out | apply below_alloc | apply pw_below_drewN | apply below_drew1 | refine below_set ?_ GE139.out | refine below_set ?_ GE140.out | refine below_set ?_ GE141.out) | exact HB.out))) : w.heap.size ≤ gb149))
                  have n7_ := Aside0.mk ((by rw [hg]; exact Nat.ne_of_lt (blk_lt (g := gb139) (o := .cells #[.bool a0_0, .slice (some ad142) l0_1.length c0_1] 39 (0, 0)) (by (with_reducible repeat (first | refine blk_drewN ?_ _ | refine blk_drew ?_ | refine blk_alloc ?_ _)); exact BK139.out)) : gb139 ≠ gb149))
                  have n8_ := Aside0.mk ((by rw [hg]; exact Nat.ne_of_gt (blk_lt (g := gb139) (o := .cells #[.bool a0_0, .slice (some ad142) l0_1.length c0_1] 39 (0, 0)) (by (with_reducible repeat (first | refine blk_drewN ?_ _ | refine blk_drew ?_ | refine blk_alloc ?_ _)); exact BK139.out)) : gb149 ≠ gb139))
                  have n9_ := Aside0.mk ((by rw [hg]; exact Nat.ne_of_lt (blk_lt (g := gb140) (o := .cells #[.int .i64 0, .int .i64 0] 34 (0, 0)) (by (with_reducible repeat (first | refine blk_drewN ?_ _ | refine blk_drew ?_ | refine blk_alloc ?_ _)); exact BK140.out)) : gb140 ≠ gb149))
                  have n10_ := Aside0.mk ((by rw [hg]; exact Nat.ne_of_gt (blk_lt (g := gb140) (o := .cells #[.int .i64 0, .int .i64 0] 34 (0, 0)) (by (with_reducible repeat (first | refine blk_drewN ?_ _ | refine blk_drew ?_ | refine blk_alloc ?_ _)); exact BK140.out)) : gb149 ≠ gb140))
                  have n11_ := Aside0.mk ((by rw [hg]; exact Nat.ne_of_lt (blk_lt (g := gb141) (o := .cells #[.int .i64 0, .int .i64 0] 34 (0, 0)) (by (with_reducible repeat (first | refine blk_drewN ?_ _ | refine blk_drew ?_ | refine blk_alloc ?_ _)); exact BK141.out)) : gb141 ≠ gb149))
                  have n12_ := Aside0.mk ((by rw [hg]; exact Nat.ne_of_gt (blk_lt (g := gb141) (o := .cells #[.int .i64 0, .int .i64 0] 34 (0, 0)) (by (with_reducible repeat (first | refine blk_drewN ?_ _ | refine blk_drew ?_ | refine blk_alloc ?_ _)); exact BK141.out)) : gb149 ≠ gb141))
                  clear BK139
                  clear BK140
                  clear BK141
                  clear HB
                  have BK139 := n0_
                  have BK140 := n1_
                  have BK141 := n2_
                  have HB := n3_
                  have BK149 := n4_
                  have GW149 := n5_
                  have GE149 := n6_
                  have NB139_149 := n7_
                  have NB149_139 := n8_
                  have NB140_149 := n9_
                  have NB149_140 := n10_
                  have NB141_149 := n11_
                  have NB149_141 := n12_
                  clear n0_ n1_ n2_ n3_ n4_ n5_ n6_ n7_ n8_ n9_ n10_ n11_ n12_
                  clear hb hbox hg
                  refine hK.out _ _ ⟨(blk_cell BK139.out 0).trans rfl, (blk_cell BK139.out 1).trans rfl, ((HB.out.cell (World.block_lt_of_cell? w _ hw142_0)).trans hw142_0), ((HB.out.cell (World.block_lt_of_cell? w _ hw142_1)).trans hw142_1), ((HB.out.cell (World.block_lt_of_cell? w _ hw145_0)).trans hw145_0), ((HB.out.cell (World.block_lt_of_cell? w _ hw145_1)).trans hw145_1)⟩ (fun hHeld => ?_)
                  clear hK K
                  refine norm_ (a' := ?_) ?_ ?_
                  rotate_left
                  ·show Act.put _ (some 8) _ = _
                   simp only [Act.put, List.setIfInBounds_toArray, List.set_cons_zero, List.set_cons_succ, i64_w, i32_w]
                   rfl
                  exact norm_ (by first | (simp only [putAll, Act.put, List.setIfInBounds_toArray, List.set_cons_zero, List.set_cons_succ]; done) | (simp only [putAll, Act.put, List.setIfInBounds_toArray, List.set_cons_zero, List.set_cons_succ]; rfl)) (hJ18 (gb149) _ ⟨hHeld, (by (with_reducible repeat (first | refine blk_drewN ?_ _ | refine blk_drew ?_ | refine blk_alloc ?_ _)); exact BK139.out), (by (with_reducible repeat (first | refine blk_drewN ?_ _ | refine blk_drew ?_ | refine blk_alloc ?_ _)); exact BK140.out), (by (with_reducible repeat (first | refine blk_drewN ?_ _ | refine blk_drew ?_ | refine blk_alloc ?_ _)); exact BK141.out), (by (with_reducible repeat (first | refine blk_drewN ?_ _ | refine blk_drew ?_ | refine blk_alloc ?_ _)); exact BK149.out), GW149.out, GE149.out, NB139_149.out, NB149_139.out, NB140_149.out, NB149_140.out, NB141_149.out, NB149_141.out, (by repeat (first | (with_reducible first | exact HB.out | apply below_alloc | apply pw_below_drewN | apply below_drew1 | refine below_set ?_ GE139.out | refine below_set ?_ GE140.out | refine below_set ?_ GE141.out | refine below_set ?_ GE149.out) | exact HB.out))⟩)
                ·skip
                 rintro gb149 w17 ⟨hS_, h0_, h1_, h2_, h3_, h4_, h5_, h6_, h7_, h8_, h9_, h10_, h11_, h12_⟩
                 have n0_ : Aside0 (w17.heap[gb139]? = some (.cells #[.bool a0_0, .slice (some ad142) l0_1.length c0_1] 39 (0, 0))) := ⟨h0_⟩
                 have n1_ : Aside0 (w17.heap[gb140]? = some (.cells #[.int .i64 0, .int .i64 0] 34 (0, 0))) := ⟨h1_⟩
                 have n2_ : Aside0 (w17.heap[gb141]? = some (.cells #[.int .i64 0, .int .i64 0] 34 (0, 0))) := ⟨h2_⟩
                 have n3_ : Aside0 (w17.heap[gb149]? = some (.cells #[.int .i64 0, .int .i64 0] 34 (0, 0))) := ⟨h3_⟩
                 have n4_ : Aside0 (w.heap.size ≤ gb149) := ⟨h4_⟩
                 have n5_ : Aside0 (w.heap.size ≤ gb149) := ⟨h5_⟩
                 have n6_ : Aside0 (gb139 ≠ gb149) := ⟨h6_⟩
                 have n7_ : Aside0 (gb149 ≠ gb139) := ⟨h7_⟩
                 have n8_ : Aside0 (gb140 ≠ gb149) := ⟨h8_⟩
                 have n9_ : Aside0 (gb149 ≠ gb140) := ⟨h9_⟩
                 have n10_ : Aside0 (gb141 ≠ gb149) := ⟨h10_⟩
                 have n11_ : Aside0 (gb149 ≠ gb141) := ⟨h11_⟩
                 have n12_ : Aside0 (Below w.heap.size w w17) := ⟨h12_⟩
                 clear BK139
                 clear BK140
                 clear BK141
                 clear HB
                 clear h0_ h1_ h2_ h3_ h4_ h5_ h6_ h7_ h8_ h9_ h10_ h11_ h12_
                 have BK139 := n0_
                 have BK140 := n1_
                 have BK141 := n2_
                 have BK149 := n3_
                 have GW149 := n4_
                 have GE149 := n5_
                 have NB139_149 := n6_
                 have NB149_139 := n7_
                 have NB140_149 := n8_
                 have NB149_140 := n9_
                 have NB141_149 := n10_
                 have NB149_141 := n11_
                 have HB := n12_
                 clear n0_ n1_ n2_ n3_ n4_ n5_ n6_ n7_ n8_ n9_ n10_ n11_ n12_
                 have hHeld : w17.cell? ⟨gb139, 0, none⟩ = some (.bool a0_0) ∧ w17.cell? ⟨gb139, 1, none⟩ = some (.slice (some ad142) l0_1.length c0_1) ∧ w17.cell? (ad142.add ((a1).toNat * 2)) = some (.int .i64 ((rd_T34 l0_1 a1).f0)) ∧ w17.cell? ⟨(ad142.add ((a1).toNat * 2)).block, (ad142.add ((a1).toNat * 2)).off + 1, none⟩ = some (.int .i64 ((rd_T34 l0_1 a1).f1)) ∧ w17.cell? (ad142.add (((ji7)).toNat * 2)) = some (.int .i64 ((rd_T34 l0_1 (ji7)).f0)) ∧ w17.cell? ⟨(ad142.add (((ji7)).toNat * 2)).block, (ad142.add (((ji7)).toNat * 2)).off + 1, none⟩ = some (.int .i64 ((rd_T34 l0_1 (ji7)).f1)) := hS_
                 refine norm_ (a' := ?_) ?_ ?_
                 rotate_left
                 ·simp only [putAll, Act.put, List.setIfInBounds_toArray, List.set_cons_zero, List.set_cons_succ]
                  rfl
                 refine two_ (i := 5) (j := 17) (Ni := some 14) (Nj := some 7) #[true, true, true, true, true, true, true, true, true, true, true, true, true, true, true, true, false, false, true, false, false] #[true, true, true, true, true, false, true, true, true, true, true, true, true, true, true, true, false, true, true, false, false] rfl rfl rfl rfl (two_of HT_.out (by kernel_rfl)) (by decide) (by decide) (fun K hK => ?_) (fun K hK => ?_)
                 ·skip
                  refine goes_ Try.func71 (by kernel_rfl) rfl #[.agg #[.int .i64 ((rd_T34 l0_1 a1).f0), .int .i64 ((rd_T34 l0_1 a1).f1)]] (by rfl) rfl rfl (by (try simp only [List.map_toArray, List.map_cons, List.map_nil]); first | done | rfl | (simp only [List.length_drop, List.length_take]; rfl)) ?_
                  with_reducible refine (arc_place.calls ((rd_T34 l0_1 a1).f0) ((rd_T34 l0_1 a1).f1) t143 t144 _ A5.out).mono ?_
                  rintro e w18 ⟨rfl, hb⟩
                  refine ⟨_, rfl, ?_⟩
                  have n0_ := Aside0.mk (blk_below (g := gb139) (o := .cells #[.bool a0_0, .slice (some ad142) l0_1.length c0_1] 39 (0, 0)) (by (with_reducible repeat (first | refine blk_drewN ?_ _ | refine blk_drew ?_ | refine blk_alloc ?_ _)); exact BK139.out) hb)
                  have n1_ := Aside0.mk (blk_below (g := gb140) (o := .cells #[.int .i64 0, .int .i64 0] 34 (0, 0)) (by (with_reducible repeat (first | refine blk_drewN ?_ _ | refine blk_drew ?_ | refine blk_alloc ?_ _)); exact BK140.out) hb)
                  have n2_ := Aside0.mk (blk_below (g := gb141) (o := .cells #[.int .i64 0, .int .i64 0] 34 (0, 0)) (by (with_reducible repeat (first | refine blk_drewN ?_ _ | refine blk_drew ?_ | refine blk_alloc ?_ _)); exact BK141.out) hb)
                  have n3_ := Aside0.mk (blk_below (g := gb149) (o := .cells #[.int .i64 0, .int .i64 0] 34 (0, 0)) (by (with_reducible repeat (first | refine blk_drewN ?_ _ | refine blk_drew ?_ | refine blk_alloc ?_ _)); exact BK149.out) hb)
                  have n4_ := Aside0.mk (below_step (by repeat (first | (with_reducible first | exact HB.out | apply below_alloc | apply pw_below_drewN | apply below_drew1 | refine below_set ?_ GE139.out | refine below_set ?_ GE140.out | refine below_set ?_ GE141.out | refine below_set ?_ GE149.out) | exact HB.out)) hb)
                  clear BK139
                  clear BK140
                  clear BK141
                  clear BK149
                  clear HB
                  have BK139 := n0_
                  have BK140 := n1_
                  have BK141 := n2_
                  have BK149 := n3_
                  have HB := n4_
                  clear n0_ n1_ n2_ n3_ n4_
                  (try clear hb)
                  (try clear hb2)
                  (try clear hk)
                  (try clear hi)
                  refine hK.out _ _ ⟨(blk_cell BK139.out 0).trans rfl, (blk_cell BK139.out 1).trans rfl, ((HB.out.cell (World.block_lt_of_cell? w _ hw142_0)).trans hw142_0), ((HB.out.cell (World.block_lt_of_cell? w _ hw142_1)).trans hw142_1), ((HB.out.cell (World.block_lt_of_cell? w _ hw145_0)).trans hw145_0), ((HB.out.cell (World.block_lt_of_cell? w _ hw145_1)).trans hw145_1)⟩ (fun hHeld => ?_)
                  clear hK K
                  refine norm_ (a' := ?_) ?_ ?_
                  rotate_left
                  ·show Act.put _ (some 14) _ = _
                   simp only [Act.put, List.setIfInBounds_toArray, List.set_cons_zero, List.set_cons_succ, i64_w, i32_w]
                   rfl
                  exact norm_ (by first | (simp only [putAll, Act.put, List.setIfInBounds_toArray, List.set_cons_zero, List.set_cons_succ]; done) | (simp only [putAll, Act.put, List.setIfInBounds_toArray, List.set_cons_zero, List.set_cons_succ]; rfl)) (hJ5_18 (gb149) _ ⟨hHeld, (by (with_reducible repeat (first | refine blk_drewN ?_ _ | refine blk_drew ?_ | refine blk_alloc ?_ _)); exact BK139.out), (by (with_reducible repeat (first | refine blk_drewN ?_ _ | refine blk_drew ?_ | refine blk_alloc ?_ _)); exact BK140.out), (by (with_reducible repeat (first | refine blk_drewN ?_ _ | refine blk_drew ?_ | refine blk_alloc ?_ _)); exact BK141.out), (by (with_reducible repeat (first | refine blk_drewN ?_ _ | refine blk_drew ?_ | refine blk_alloc ?_ _)); exact BK149.out), GW149.out, GE149.out, NB139_149.out, NB149_139.out, NB140_149.out, NB149_140.out, NB141_149.out, NB149_141.out, (by repeat (first | (with_reducible first | exact HB.out | apply below_alloc | apply pw_below_drewN | apply below_drew1 | refine below_set ?_ GE139.out | refine below_set ?_ GE140.out | refine below_set ?_ GE141.out | refine below_set ?_ GE149.out) | exact HB.out))⟩)
                 ·skip
                  refine box_step ?hg (N := 7) ?hd (cs := #[.int .i64 0, .int .i64 0]) (t := 34) ?hr ?_; (case hd => rfl); (case hg => rfl); (case hr => first | (go_simp; done) | (go_simp; rfl))
                  intro gb148 hg w18 hbox hb
                  have n0_ := Aside0.mk (blk_below (g := gb139) (o := .cells #[.bool a0_0, .slice (some ad142) l0_1.length c0_1] 39 (0, 0)) (by (with_reducible repeat (first | refine blk_drewN ?_ _ | refine blk_drew ?_ | refine blk_alloc ?_ _)); exact BK139.out) hb)
                  have n1_ := Aside0.mk (blk_below (g := gb140) (o := .cells #[.int .i64 0, .int .i64 0] 34 (0, 0)) (by (with_reducible repeat (first | refine blk_drewN ?_ _ | refine blk_drew ?_ | refine blk_alloc ?_ _)); exact BK140.out) hb)
                  have n2_ := Aside0.mk (blk_below (g := gb141) (o := .cells #[.int .i64 0, .int .i64 0] 34 (0, 0)) (by (with_reducible repeat (first | refine blk_drewN ?_ _ | refine blk_drew ?_ | refine blk_alloc ?_ _)); exact BK141.out) hb)
                  have n3_ := Aside0.mk (blk_below (g := gb149) (o := .cells #[.int .i64 0, .int .i64 0] 34 (0, 0)) (by (with_reducible repeat (first | refine blk_drewN ?_ _ | refine blk_drew ?_ | refine blk_alloc ?_ _)); exact BK149.out) hb)
                  have n4_ := Aside0.mk (below_step (by repeat (first | (with_reducible first | exact HB.out | apply below_alloc | apply pw_below_drewN | apply below_drew1 | refine below_set ?_ GE139.out | refine below_set ?_ GE140.out | refine below_set ?_ GE141.out | refine below_set ?_ GE149.out) | exact HB.out)) hb)
                  have n5_ := Aside0.mk (hbox)
                  have n6_ := Aside0.mk ((by rw [hg]; exact (below_size (by repeat (first | (with_reducible first | exact HB.out | apply below_alloc | apply pw_below_drewN | apply below_drew1 | refine below_set ?_ GE139.out | refine below_set ?_ GE140.out | refine below_set ?_ GE141.out | refine below_set ?_ GE149.out) | exact HB.out))) : w.heap.size ≤ gb148))
                  have n7_ := Aside0.mk ((by rw [hg]; exact (below_size (by repeat (first | (with_reducible first | exact HB.out | apply below_alloc | apply pw_below_drewN | apply below_drew1 | refine below_set ?_ GE139.out | refine below_set ?_ GE140.out | refine below_set ?_ GE141.out | refine below_set ?_ GE149.out) | exact HB.out))) : w.heap.size ≤ gb148))
                  have n8_ := Aside0.mk ((by rw [hg]; exact Nat.ne_of_lt (blk_lt (g := gb139) (o := .cells #[.bool a0_0, .slice (some ad142) l0_1.length c0_1] 39 (0, 0)) (by (with_reducible repeat (first | refine blk_drewN ?_ _ | refine blk_drew ?_ | refine blk_alloc ?_ _)); exact BK139.out)) : gb139 ≠ gb148))
                  have n9_ := Aside0.mk ((by rw [hg]; exact Nat.ne_of_gt (blk_lt (g := gb139) (o := .cells #[.bool a0_0, .slice (some ad142) l0_1.length c0_1] 39 (0, 0)) (by (with_reducible repeat (first | refine blk_drewN ?_ _ | refine blk_drew ?_ | refine blk_alloc ?_ _)); exact BK139.out)) : gb148 ≠ gb139))
                  have n10_ := Aside0.mk ((by rw [hg]; exact Nat.ne_of_lt (blk_lt (g := gb140) (o := .cells #[.int .i64 0, .int .i64 0] 34 (0, 0)) (by (with_reducible repeat (first | refine blk_drewN ?_ _ | refine blk_drew ?_ | refine blk_alloc ?_ _)); exact BK140.out)) : gb140 ≠ gb148))
                  have n11_ := Aside0.mk ((by rw [hg]; exact Nat.ne_of_gt (blk_lt (g := gb140) (o := .cells #[.int .i64 0, .int .i64 0] 34 (0, 0)) (by (with_reducible repeat (first | refine blk_drewN ?_ _ | refine blk_drew ?_ | refine blk_alloc ?_ _)); exact BK140.out)) : gb148 ≠ gb140))
                  have n12_ := Aside0.mk ((by rw [hg]; exact Nat.ne_of_lt (blk_lt (g := gb141) (o := .cells #[.int .i64 0, .int .i64 0] 34 (0, 0)) (by (with_reducible repeat (first | refine blk_drewN ?_ _ | refine blk_drew ?_ | refine blk_alloc ?_ _)); exact BK141.out)) : gb141 ≠ gb148))
                  have n13_ := Aside0.mk ((by rw [hg]; exact Nat.ne_of_gt (blk_lt (g := gb141) (o := .cells #[.int .i64 0, .int .i64 0] 34 (0, 0)) (by (with_reducible repeat (first | refine blk_drewN ?_ _ | refine blk_drew ?_ | refine blk_alloc ?_ _)); exact BK141.out)) : gb148 ≠ gb141))
                  have n14_ := Aside0.mk ((by rw [hg]; exact Nat.ne_of_lt (blk_lt (g := gb149) (o := .cells #[.int .i64 0, .int .i64 0] 34 (0, 0)) (by (with_reducible repeat (first | refine blk_drewN ?_ _ | refine blk_drew ?_ | refine blk_alloc ?_ _)); exact BK149.out)) : gb149 ≠ gb148))
                  have n15_ := Aside0.mk ((by rw [hg]; exact Nat.ne_of_gt (blk_lt (g := gb149) (o := .cells #[.int .i64 0, .int .i64 0] 34 (0, 0)) (by (with_reducible repeat (first | refine blk_drewN ?_ _ | refine blk_drew ?_ | refine blk_alloc ?_ _)); exact BK149.out)) : gb148 ≠ gb149))
                  clear BK139
                  clear BK140
                  clear BK141
                  clear BK149
                  clear HB
                  have BK139 := n0_
                  have BK140 := n1_
                  have BK141 := n2_
                  have BK149 := n3_
                  have HB := n4_
                  have BK148 := n5_
                  have GW148 := n6_
                  have GE148 := n7_
                  have NB139_148 := n8_
                  have NB148_139 := n9_
                  have NB140_148 := n10_
                  have NB148_140 := n11_
                  have NB141_148 := n12_
                  have NB148_141 := n13_
                  have NB149_148 := n14_
                  have NB148_149 := n15_
                  clear n0_ n1_ n2_ n3_ n4_ n5_ n6_ n7_ n8_ n9_ n10_ n11_ n12_ n13_ n14_ n15_
                  clear hb hbox hg
                  refine hK.out _ _ ⟨(blk_cell BK139.out 0).trans rfl, (blk_cell BK139.out 1).trans rfl, ((HB.out.cell (World.block_lt_of_cell? w _ hw142_0)).trans hw142_0), ((HB.out.cell (World.block_lt_of_cell? w _ hw142_1)).trans hw142_1), ((HB.out.cell (World.block_lt_of_cell? w _ hw145_0)).trans hw145_0), ((HB.out.cell (World.block_lt_of_cell? w _ hw145_1)).trans hw145_1)⟩ (fun hHeld => ?_)
                  clear hK K
                  refine norm_ (a' := ?_) ?_ ?_
                  rotate_left
                  ·show Act.put _ (some 7) _ = _
                   simp only [Act.put, List.setIfInBounds_toArray, List.set_cons_zero, List.set_cons_succ, i64_w, i32_w]
                   rfl
                  exact norm_ (by first | (simp only [putAll, Act.put, List.setIfInBounds_toArray, List.set_cons_zero, List.set_cons_succ]; done) | (simp only [putAll, Act.put, List.setIfInBounds_toArray, List.set_cons_zero, List.set_cons_succ]; rfl)) (hJ17_18 (gb148, gb149) _ ⟨hHeld, (by (with_reducible repeat (first | refine blk_drewN ?_ _ | refine blk_drew ?_ | refine blk_alloc ?_ _)); exact BK139.out), (by (with_reducible repeat (first | refine blk_drewN ?_ _ | refine blk_drew ?_ | refine blk_alloc ?_ _)); exact BK140.out), (by (with_reducible repeat (first | refine blk_drewN ?_ _ | refine blk_drew ?_ | refine blk_alloc ?_ _)); exact BK141.out), (by (with_reducible repeat (first | refine blk_drewN ?_ _ | refine blk_drew ?_ | refine blk_alloc ?_ _)); exact BK148.out), (by (with_reducible repeat (first | refine blk_drewN ?_ _ | refine blk_drew ?_ | refine blk_alloc ?_ _)); exact BK149.out), GW148.out, GE148.out, NB139_148.out, NB148_139.out, NB140_148.out, NB148_140.out, NB141_148.out, NB148_141.out, NB149_148.out, NB148_149.out, GW149.out, GE149.out, NB139_149.out, NB149_139.out, NB140_149.out, NB149_140.out, NB141_149.out, NB149_141.out, (by repeat (first | (with_reducible first | exact HB.out | apply below_alloc | apply pw_below_drewN | apply below_drew1 | refine below_set ?_ GE139.out | refine below_set ?_ GE140.out | refine below_set ?_ GE141.out | refine below_set ?_ GE149.out | refine below_set ?_ GE148.out) | exact HB.out))⟩)
               ·skip
                rintro gb148 w17 ⟨hS_, h0_, h1_, h2_, h3_, h4_, h5_, h6_, h7_, h8_, h9_, h10_, h11_, h12_⟩
                have n0_ : Aside0 (w17.heap[gb139]? = some (.cells #[.bool a0_0, .slice (some ad142) l0_1.length c0_1] 39 (0, 0))) := ⟨h0_⟩
                have n1_ : Aside0 (w17.heap[gb140]? = some (.cells #[.int .i64 0, .int .i64 0] 34 (0, 0))) := ⟨h1_⟩
                have n2_ : Aside0 (w17.heap[gb141]? = some (.cells #[.int .i64 0, .int .i64 0] 34 (0, 0))) := ⟨h2_⟩
                have n3_ : Aside0 (w17.heap[gb148]? = some (.cells #[.int .i64 0, .int .i64 0] 34 (0, 0))) := ⟨h3_⟩
                have n4_ : Aside0 (w.heap.size ≤ gb148) := ⟨h4_⟩
                have n5_ : Aside0 (w.heap.size ≤ gb148) := ⟨h5_⟩
                have n6_ : Aside0 (gb139 ≠ gb148) := ⟨h6_⟩
                have n7_ : Aside0 (gb148 ≠ gb139) := ⟨h7_⟩
                have n8_ : Aside0 (gb140 ≠ gb148) := ⟨h8_⟩
                have n9_ : Aside0 (gb148 ≠ gb140) := ⟨h9_⟩
                have n10_ : Aside0 (gb141 ≠ gb148) := ⟨h10_⟩
                have n11_ : Aside0 (gb148 ≠ gb141) := ⟨h11_⟩
                have n12_ : Aside0 (Below w.heap.size w w17) := ⟨h12_⟩
                clear BK139
                clear BK140
                clear BK141
                clear HB
                clear h0_ h1_ h2_ h3_ h4_ h5_ h6_ h7_ h8_ h9_ h10_ h11_ h12_
                have BK139 := n0_
                have BK140 := n1_
                have BK141 := n2_
                have BK148 := n3_
                have GW148 := n4_
                have GE148 := n5_
                have NB139_148 := n6_
                have NB148_139 := n7_
                have NB140_148 := n8_
                have NB148_140 := n9_
                have NB141_148 := n10_
                have NB148_141 := n11_
                have HB := n12_
                clear n0_ n1_ n2_ n3_ n4_ n5_ n6_ n7_ n8_ n9_ n10_ n11_ n12_
                have hHeld : w17.cell? ⟨gb139, 0, none⟩ = some (.bool a0_0) ∧ w17.cell? ⟨gb139, 1, none⟩ = some (.slice (some ad142) l0_1.length c0_1) ∧ w17.cell? (ad142.add ((a1).toNat * 2)) = some (.int .i64 ((rd_T34 l0_1 a1).f0)) ∧ w17.cell? ⟨(ad142.add ((a1).toNat * 2)).block, (ad142.add ((a1).toNat * 2)).off + 1, none⟩ = some (.int .i64 ((rd_T34 l0_1 a1).f1)) ∧ w17.cell? (ad142.add (((ji7)).toNat * 2)) = some (.int .i64 ((rd_T34 l0_1 (ji7)).f0)) ∧ w17.cell? ⟨(ad142.add (((ji7)).toNat * 2)).block, (ad142.add (((ji7)).toNat * 2)).off + 1, none⟩ = some (.int .i64 ((rd_T34 l0_1 (ji7)).f1)) := hS_
                refine norm_ (a' := ?_) ?_ ?_
                rotate_left
                ·simp only [putAll, Act.put, List.setIfInBounds_toArray, List.set_cons_zero, List.set_cons_succ]
                 rfl
                refine two_ (i := 5) (j := 18) (Ni := some 14) (Nj := some 8) #[true, true, true, true, true, true, true, true, true, true, true, true, true, true, true, true, false, true, false, false, false] #[true, true, true, true, true, false, true, true, true, true, true, true, true, true, true, true, false, true, true, false, false] rfl rfl rfl rfl (two_of HT_.out (by kernel_rfl)) (by decide) (by decide) (fun K hK => ?_) (fun K hK => ?_)
                ·skip
                 refine goes_ Try.func71 (by kernel_rfl) rfl #[.agg #[.int .i64 ((rd_T34 l0_1 a1).f0), .int .i64 ((rd_T34 l0_1 a1).f1)]] (by rfl) rfl rfl (by (try simp only [List.map_toArray, List.map_cons, List.map_nil]); first | done | rfl | (simp only [List.length_drop, List.length_take]; rfl)) ?_
                 with_reducible refine (arc_place.calls ((rd_T34 l0_1 a1).f0) ((rd_T34 l0_1 a1).f1) t143 t144 _ A5.out).mono ?_
                 rintro e w18 ⟨rfl, hb⟩
                 refine ⟨_, rfl, ?_⟩
                 have n0_ := Aside0.mk (blk_below (g := gb139) (o := .cells #[.bool a0_0, .slice (some ad142) l0_1.length c0_1] 39 (0, 0)) (by (with_reducible repeat (first | refine blk_drewN ?_ _ | refine blk_drew ?_ | refine blk_alloc ?_ _)); exact BK139.out) hb)
                 have n1_ := Aside0.mk (blk_below (g := gb140) (o := .cells #[.int .i64 0, .int .i64 0] 34 (0, 0)) (by (with_reducible repeat (first | refine blk_drewN ?_ _ | refine blk_drew ?_ | refine blk_alloc ?_ _)); exact BK140.out) hb)
                 have n2_ := Aside0.mk (blk_below (g := gb141) (o := .cells #[.int .i64 0, .int .i64 0] 34 (0, 0)) (by (with_reducible repeat (first | refine blk_drewN ?_ _ | refine blk_drew ?_ | refine blk_alloc ?_ _)); exact BK141.out) hb)
                 have n3_ := Aside0.mk (blk_below (g := gb148) (o := .cells #[.int .i64 0, .int .i64 0] 34 (0, 0)) (by (with_reducible repeat (first | refine blk_drewN ?_ _ | refine blk_drew ?_ | refine blk_alloc ?_ _)); exact BK148.out) hb)
                 have n4_ := Aside0.mk (below_step (by repeat (first | (with_reducible first | exact HB.out | apply below_alloc | apply pw_below_drewN | apply below_drew1 | refine below_set ?_ GE139.out | refine below_set ?_ GE140.out | refine below_set ?_ GE141.out | refine below_set ?_ GE148.out) | exact HB.out)) hb)
                 clear BK139
                 clear BK140
                 clear BK141
                 clear BK148
                 clear HB
                 have BK139 := n0_
                 have BK140 := n1_
                 have BK141 := n2_
                 have BK148 := n3_
                 have HB := n4_
                 clear n0_ n1_ n2_ n3_ n4_
                 (try clear hb)
                 (try clear hb2)
                 (try clear hk)
                 (try clear hi)
                 refine hK.out _ _ ⟨(blk_cell BK139.out 0).trans rfl, (blk_cell BK139.out 1).trans rfl, ((HB.out.cell (World.block_lt_of_cell? w _ hw142_0)).trans hw142_0), ((HB.out.cell (World.block_lt_of_cell? w _ hw142_1)).trans hw142_1), ((HB.out.cell (World.block_lt_of_cell? w _ hw145_0)).trans hw145_0), ((HB.out.cell (World.block_lt_of_cell? w _ hw145_1)).trans hw145_1)⟩ (fun hHeld => ?_)
                 clear hK K
                 refine norm_ (a' := ?_) ?_ ?_
                 rotate_left
                 ·show Act.put _ (some 14) _ = _
                  simp only [Act.put, List.setIfInBounds_toArray, List.set_cons_zero, List.set_cons_succ, i64_w, i32_w]
                  rfl
                 exact norm_ (by first | (simp only [putAll, Act.put, List.setIfInBounds_toArray, List.set_cons_zero, List.set_cons_succ]; done) | (simp only [putAll, Act.put, List.setIfInBounds_toArray, List.set_cons_zero, List.set_cons_succ]; rfl)) (hJ5_17 (gb148) _ ⟨hHeld, (by (with_reducible repeat (first | refine blk_drewN ?_ _ | refine blk_drew ?_ | refine blk_alloc ?_ _)); exact BK139.out), (by (with_reducible repeat (first | refine blk_drewN ?_ _ | refine blk_drew ?_ | refine blk_alloc ?_ _)); exact BK140.out), (by (with_reducible repeat (first | refine blk_drewN ?_ _ | refine blk_drew ?_ | refine blk_alloc ?_ _)); exact BK141.out), (by (with_reducible repeat (first | refine blk_drewN ?_ _ | refine blk_drew ?_ | refine blk_alloc ?_ _)); exact BK148.out), GW148.out, GE148.out, NB139_148.out, NB148_139.out, NB140_148.out, NB148_140.out, NB141_148.out, NB148_141.out, (by repeat (first | (with_reducible first | exact HB.out | apply below_alloc | apply pw_below_drewN | apply below_drew1 | refine below_set ?_ GE139.out | refine below_set ?_ GE140.out | refine below_set ?_ GE141.out | refine below_set ?_ GE148.out) | exact HB.out))⟩)
                ·skip
                 refine box_step ?hg (N := 8) ?hd (cs := #[.int .i64 0, .int .i64 0]) (t := 34) ?hr ?_; (case hd => rfl); (case hg => rfl); (case hr => first | (go_simp; done) | (go_simp; rfl))
                 intro gb149 hg w18 hbox hb
                 have n0_ := Aside0.mk (blk_below (g := gb139) (o := .cells #[.bool a0_0, .slice (some ad142) l0_1.length c0_1] 39 (0, 0)) (by (with_reducible repeat (first | refine blk_drewN ?_ _ | refine blk_drew ?_ | refine blk_alloc ?_ _)); exact BK139.out) hb)
                 have n1_ := Aside0.mk (blk_below (g := gb140) (o := .cells #[.int .i64 0, .int .i64 0] 34 (0, 0)) (by (with_reducible repeat (first | refine blk_drewN ?_ _ | refine blk_drew ?_ | refine blk_alloc ?_ _)); exact BK140.out) hb)
                 have n2_ := Aside0.mk (blk_below (g := gb141) (o := .cells #[.int .i64 0, .int .i64 0] 34 (0, 0)) (by (with_reducible repeat (first | refine blk_drewN ?_ _ | refine blk_drew ?_ | refine blk_alloc ?_ _)); exact BK141.out) hb)
                 have n3_ := Aside0.mk (blk_below (g := gb148) (o := .cells #[.int .i64 0, .int .i64 0] 34 (0, 0)) (by (with_reducible repeat (first | refine blk_drewN ?_ _ | refine blk_drew ?_ | refine blk_alloc ?_ _)); exact BK148.out) hb)
                 have n4_ := Aside0.mk (below_step (by repeat (first | (with_reducible first | exact HB.out | apply below_alloc | apply pw_below_drewN | apply below_drew1 | refine below_set ?_ GE139.out | refine below_set ?_ GE140.out | refine below_set ?_ GE141.out | refine below_set ?_ GE148.out) | exact HB.out)) hb)
                 have n5_ := Aside0.mk (hbox)
                 have n6_ := Aside0.mk ((by rw [hg]; exact (below_size (by repeat (first | (with_reducible first | exact HB.out | apply below_alloc | apply pw_below_drewN | apply below_drew1 | refine below_set ?_ GE139.out | refine below_set ?_ GE140.out | refine below_set ?_ GE141.out | refine below_set ?_ GE148.out) | exact HB.out))) : w.heap.size ≤ gb149))
                 have n7_ := Aside0.mk ((by rw [hg]; exact (below_size (by repeat (first | (with_reducible first | exact HB.out | apply below_alloc | apply pw_below_drewN | apply below_drew1 | refine below_set ?_ GE139.out | refine below_set ?_ GE140.out | refine below_set ?_ GE141.out | refine below_set ?_ GE148.out) | exact HB.out))) : w.heap.size ≤ gb149))
                 have n8_ := Aside0.mk ((by rw [hg]; exact Nat.ne_of_lt (blk_lt (g := gb139) (o := .cells #[.bool a0_0, .slice (some ad142) l0_1.length c0_1] 39 (0, 0)) (by (with_reducible repeat (first | refine blk_drewN ?_ _ | refine blk_drew ?_ | refine blk_alloc ?_ _)); exact BK139.out)) : gb139 ≠ gb149))
                 have n9_ := Aside0.mk ((by rw [hg]; exact Nat.ne_of_gt (blk_lt (g := gb139) (o := .cells #[.bool a0_0, .slice (some ad142) l0_1.length c0_1] 39 (0, 0)) (by (with_reducible repeat (first | refine blk_drewN ?_ _ | refine blk_drew ?_ | refine blk_alloc ?_ _)); exact BK139.out)) : gb149 ≠ gb139))
                 have n10_ := Aside0.mk ((by rw [hg]; exact Nat.ne_of_lt (blk_lt (g := gb140) (o := .cells #[.int .i64 0, .int .i64 0] 34 (0, 0)) (by (with_reducible repeat (first | refine blk_drewN ?_ _ | refine blk_drew ?_ | refine blk_alloc ?_ _)); exact BK140.out)) : gb140 ≠ gb149))
                 have n11_ := Aside0.mk ((by rw [hg]; exact Nat.ne_of_gt (blk_lt (g := gb140) (o := .cells #[.int .i64 0, .int .i64 0] 34 (0, 0)) (by (with_reducible repeat (first | refine blk_drewN ?_ _ | refine blk_drew ?_ | refine blk_alloc ?_ _)); exact BK140.out)) : gb149 ≠ gb140))
                 have n12_ := Aside0.mk ((by rw [hg]; exact Nat.ne_of_lt (blk_lt (g := gb141) (o := .cells #[.int .i64 0, .int .i64 0] 34 (0, 0)) (by (with_reducible repeat (first | refine blk_drewN ?_ _ | refine blk_drew ?_ | refine blk_alloc ?_ _)); exact BK141.out)) : gb141 ≠ gb149))
                 have n13_ := Aside0.mk ((by rw [hg]; exact Nat.ne_of_gt (blk_lt (g := gb141) (o := .cells #[.int .i64 0, .int .i64 0] 34 (0, 0)) (by (with_reducible repeat (first | refine blk_drewN ?_ _ | refine blk_drew ?_ | refine blk_alloc ?_ _)); exact BK141.out)) : gb149 ≠ gb141))
                 have n14_ := Aside0.mk ((by rw [hg]; exact Nat.ne_of_lt (blk_lt (g := gb148) (o := .cells #[.int .i64 0, .int .i64 0] 34 (0, 0)) (by (with_reducible repeat (first | refine blk_drewN ?_ _ | refine blk_drew ?_ | refine blk_alloc ?_ _)); exact BK148.out)) : gb148 ≠ gb149))
                 have n15_ := Aside0.mk ((by rw [hg]; exact Nat.ne_of_gt (blk_lt (g := gb148) (o := .cells #[.int .i64 0, .int .i64 0] 34 (0, 0)) (by (with_reducible repeat (first | refine blk_drewN ?_ _ | refine blk_drew ?_ | refine blk_alloc ?_ _)); exact BK148.out)) : gb149 ≠ gb148))
                 clear BK139
                 clear BK140
                 clear BK141
                 clear BK148
                 clear HB
                 have BK139 := n0_
                 have BK140 := n1_
                 have BK141 := n2_
                 have BK148 := n3_
                 have HB := n4_
                 have BK149 := n5_
                 have GW149 := n6_
                 have GE149 := n7_
                 have NB139_149 := n8_
                 have NB149_139 := n9_
                 have NB140_149 := n10_
                 have NB149_140 := n11_
                 have NB141_149 := n12_
                 have NB149_141 := n13_
                 have NB148_149 := n14_
                 have NB149_148 := n15_
                 clear n0_ n1_ n2_ n3_ n4_ n5_ n6_ n7_ n8_ n9_ n10_ n11_ n12_ n13_ n14_ n15_
                 clear hb hbox hg
                 refine hK.out _ _ ⟨(blk_cell BK139.out 0).trans rfl, (blk_cell BK139.out 1).trans rfl, ((HB.out.cell (World.block_lt_of_cell? w _ hw142_0)).trans hw142_0), ((HB.out.cell (World.block_lt_of_cell? w _ hw142_1)).trans hw142_1), ((HB.out.cell (World.block_lt_of_cell? w _ hw145_0)).trans hw145_0), ((HB.out.cell (World.block_lt_of_cell? w _ hw145_1)).trans hw145_1)⟩ (fun hHeld => ?_)
                 clear hK K
                 refine norm_ (a' := ?_) ?_ ?_
                 rotate_left
                 ·show Act.put _ (some 8) _ = _
                  simp only [Act.put, List.setIfInBounds_toArray, List.set_cons_zero, List.set_cons_succ, i64_w, i32_w]
                  rfl
                 exact norm_ (by first | (simp only [putAll, Act.put, List.setIfInBounds_toArray, List.set_cons_zero, List.set_cons_succ]; done) | (simp only [putAll, Act.put, List.setIfInBounds_toArray, List.set_cons_zero, List.set_cons_succ]; rfl)) (hJ17_18 (gb148, gb149) _ ⟨hHeld, (by (with_reducible repeat (first | refine blk_drewN ?_ _ | refine blk_drew ?_ | refine blk_alloc ?_ _)); exact BK139.out), (by (with_reducible repeat (first | refine blk_drewN ?_ _ | refine blk_drew ?_ | refine blk_alloc ?_ _)); exact BK140.out), (by (with_reducible repeat (first | refine blk_drewN ?_ _ | refine blk_drew ?_ | refine blk_alloc ?_ _)); exact BK141.out), (by (with_reducible repeat (first | refine blk_drewN ?_ _ | refine blk_drew ?_ | refine blk_alloc ?_ _)); exact BK148.out), (by (with_reducible repeat (first | refine blk_drewN ?_ _ | refine blk_drew ?_ | refine blk_alloc ?_ _)); exact BK149.out), GW148.out, GE148.out, NB139_148.out, NB148_139.out, NB140_148.out, NB148_140.out, NB141_148.out, NB148_141.out, NB149_148.out, NB148_149.out, GW149.out, GE149.out, NB139_149.out, NB149_139.out, NB140_149.out, NB149_140.out, NB141_149.out, NB149_141.out, (by repeat (first | (with_reducible first | exact HB.out | apply below_alloc | apply pw_below_drewN | apply below_drew1 | refine below_set ?_ GE139.out | refine below_set ?_ GE140.out | refine below_set ?_ GE141.out | refine below_set ?_ GE148.out | refine below_set ?_ GE149.out) | exact HB.out))⟩)
              ·skip
               rintro _ w17 ⟨hS_, h0_, h1_, h2_, h3_⟩
               have n0_ : Aside0 (w17.heap[gb139]? = some (.cells #[.bool a0_0, .slice (some ad142) l0_1.length c0_1] 39 (0, 0))) := ⟨h0_⟩
               have n1_ : Aside0 (w17.heap[gb140]? = some (.cells #[.int .i64 0, .int .i64 0] 34 (0, 0))) := ⟨h1_⟩
               have n2_ : Aside0 (w17.heap[gb141]? = some (.cells #[.int .i64 0, .int .i64 0] 34 (0, 0))) := ⟨h2_⟩
               have n3_ : Aside0 (Below w.heap.size w w17) := ⟨h3_⟩
               clear BK139
               clear BK140
               clear BK141
               clear HB
               clear h0_ h1_ h2_ h3_
               have BK139 := n0_
               have BK140 := n1_
               have BK141 := n2_
               have HB := n3_
               clear n0_ n1_ n2_ n3_
               have hHeld : w17.cell? ⟨gb139, 0, none⟩ = some (.bool a0_0) ∧ w17.cell? ⟨gb139, 1, none⟩ = some (.slice (some ad142) l0_1.length c0_1) ∧ w17.cell? (ad142.add ((a1).toNat * 2)) = some (.int .i64 ((rd_T34 l0_1 a1).f0)) ∧ w17.cell? ⟨(ad142.add ((a1).toNat * 2)).block, (ad142.add ((a1).toNat * 2)).off + 1, none⟩ = some (.int .i64 ((rd_T34 l0_1 a1).f1)) ∧ w17.cell? (ad142.add (((ji7)).toNat * 2)) = some (.int .i64 ((rd_T34 l0_1 (ji7)).f0)) ∧ w17.cell? ⟨(ad142.add (((ji7)).toNat * 2)).block, (ad142.add (((ji7)).toNat * 2)).off + 1, none⟩ = some (.int .i64 ((rd_T34 l0_1 (ji7)).f1)) := hS_
               refine norm_ (a' := ?_) ?_ ?_
               rotate_left
               ·simp only [putAll, Act.put, List.setIfInBounds_toArray, List.set_cons_zero, List.set_cons_succ]
                rfl
               refine three_ (i := 16) (j := 17) (k := 18) (Ni := some 25) (Nj := some 7) (Nk := some 8) #[true, true, true, true, true, true, true, true, true, true, true, true, true, true, true, true, true, false, false, false, false] #[true, true, true, true, true, true, true, true, true, true, true, true, true, true, true, true, false, true, false, false, false] #[true, true, true, true, true, true, true, true, true, true, true, true, true, true, true, true, false, false, true, false, false] rfl rfl rfl rfl rfl rfl (three_of HT_.out (by kernel_rfl)) (by decide) (by decide) (by decide) (fun K hK => ?_) (fun K hK => ?_) (fun K hK => ?_)
               ·skip
                refine goes_ Try.func71 (by kernel_rfl) rfl #[.agg #[.int .i64 ((rd_T34 l0_1 (ji7)).f0), .int .i64 ((rd_T34 l0_1 (ji7)).f1)]] (by rfl) rfl rfl (by (try simp only [List.map_toArray, List.map_cons, List.map_nil]); first | done | (simp only [hji7]; rfl) | rfl | (simp only [List.length_drop, List.length_take]; rfl)) ?_
                with_reducible refine (arc_place.calls ((rd_T34 l0_1 (ji7)).f0) ((rd_T34 l0_1 (ji7)).f1) t146 t147 _ A10.out).mono ?_
                rintro e w18 ⟨rfl, hb⟩
                refine ⟨_, rfl, ?_⟩
                have n0_ := Aside0.mk (blk_below (g := gb139) (o := .cells #[.bool a0_0, .slice (some ad142) l0_1.length c0_1] 39 (0, 0)) (by (with_reducible repeat (first | refine blk_drewN ?_ _ | refine blk_drew ?_ | refine blk_alloc ?_ _)); exact BK139.out) hb)
                have n1_ := Aside0.mk (blk_below (g := gb140) (o := .cells #[.int .i64 0, .int .i64 0] 34 (0, 0)) (by (with_reducible repeat (first | refine blk_drewN ?_ _ | refine blk_drew ?_ | refine blk_alloc ?_ _)); exact BK140.out) hb)
                have n2_ := Aside0.mk (blk_below (g := gb141) (o := .cells #[.int .i64 0, .int .i64 0] 34 (0, 0)) (by (with_reducible repeat (first | refine blk_drewN ?_ _ | refine blk_drew ?_ | refine blk_alloc ?_ _)); exact BK141.out) hb)
                have n3_ := Aside0.mk (below_step (by repeat (first | (with_reducible first | exact HB.out | apply below_alloc | apply pw_below_drewN | apply below_drew1 | refine below_set ?_ GE139.out | refine below_set ?_ GE140.out | refine below_set ?_ GE141.out) | exact HB.out)) hb)
                clear BK139
                clear BK140
                clear BK141
                clear HB
                have BK139 := n0_
                have BK140 := n1_
                have BK141 := n2_
                have HB := n3_
                clear n0_ n1_ n2_ n3_
                (try clear hb)
                (try clear hb2)
                (try clear hk)
                (try clear hi)
                refine hK.out _ _ ⟨(blk_cell BK139.out 0).trans rfl, (blk_cell BK139.out 1).trans rfl, ((HB.out.cell (World.block_lt_of_cell? w _ hw142_0)).trans hw142_0), ((HB.out.cell (World.block_lt_of_cell? w _ hw142_1)).trans hw142_1), ((HB.out.cell (World.block_lt_of_cell? w _ hw145_0)).trans hw145_0), ((HB.out.cell (World.block_lt_of_cell? w _ hw145_1)).trans hw145_1)⟩ (fun hHeld => ?_)
                clear hK K
                refine norm_ (a' := ?_) ?_ ?_
                rotate_left
                ·show Act.put _ (some 25) _ = _
                 simp only [Act.put, List.setIfInBounds_toArray, List.set_cons_zero, List.set_cons_succ, i64_w, i32_w]
                 rfl
                exact norm_ (by first | (simp only [putAll, Act.put, List.setIfInBounds_toArray, List.set_cons_zero, List.set_cons_succ]; done) | (simp only [putAll, Act.put, List.setIfInBounds_toArray, List.set_cons_zero, List.set_cons_succ]; rfl)) (hJ5_16 () _ ⟨hHeld, (by (with_reducible repeat (first | refine blk_drewN ?_ _ | refine blk_drew ?_ | refine blk_alloc ?_ _)); exact BK139.out), (by (with_reducible repeat (first | refine blk_drewN ?_ _ | refine blk_drew ?_ | refine blk_alloc ?_ _)); exact BK140.out), (by (with_reducible repeat (first | refine blk_drewN ?_ _ | refine blk_drew ?_ | refine blk_alloc ?_ _)); exact BK141.out), (by repeat (first | (with_reducible first | exact HB.out | apply below_alloc | apply pw_below_drewN | apply below_drew1 | refine below_set ?_ GE139.out | refine below_set ?_ GE140.out | refine below_set ?_ GE141.out) | exact HB.out))⟩)
               ·skip
                refine box_step ?hg (N := 7) ?hd (cs := #[.int .i64 0, .int .i64 0]) (t := 34) ?hr ?_; (case hd => rfl); (case hg => rfl); (case hr => first | (go_simp; done) | (go_simp; rfl))
                intro gb148 hg w18 hbox hb
                have n0_ := Aside0.mk (blk_below (g := gb139) (o := .cells #[.bool a0_0, .slice (some ad142) l0_1.length c0_1] 39 (0, 0)) (by (with_reducible repeat (first | refine blk_drewN ?_ _ | refine blk_drew ?_ | refine blk_alloc ?_ _)); exact BK139.out) hb)
                have n1_ := Aside0.mk (blk_below (g := gb140) (o := .cells #[.int .i64 0, .int .i64 0] 34 (0, 0)) (by (with_reducible repeat (first | refine blk_drewN ?_ _ | refine blk_drew ?_ | refine blk_alloc ?_ _)); exact BK140.out) hb)
                have n2_ := Aside0.mk (blk_below (g := gb141) (o := .cells #[.int .i64 0, .int .i64 0] 34 (0, 0)) (by (with_reducible repeat (first | refine blk_drewN ?_ _ | refine blk_drew ?_ | refine blk_alloc ?_ _)); exact BK141.out) hb)
                have n3_ := Aside0.mk (below_step (by repeat (first | (with_reducible first | exact HB.out | apply below_alloc | apply pw_below_drewN | apply below_drew1 | refine below_set ?_ GE139.out | refine below_set ?_ GE140.out | refine below_set ?_ GE141.out) | exact HB.out)) hb)
                have n4_ := Aside0.mk (hbox)
                have n5_ := Aside0.mk ((by rw [hg]; exact (below_size (by repeat (first | (with_reducible first | exact HB.out | apply below_alloc | apply pw_below_drewN | apply below_drew1 | refine below_set ?_ GE139.out | refine below_set ?_ GE140.out | refine below_set ?_ GE141.out) | exact HB.out))) : w.heap.size ≤ gb148))
                have n6_ := Aside0.mk ((by rw [hg]; exact (below_size (by repeat (first | (with_reducible first | exact HB.out | apply below_alloc | apply pw_below_drewN | apply below_drew1 | refine below_set ?_ GE139.out | refine below_set ?_ GE140.out | refine below_set ?_ GE141.out) | exact HB.out))) : w.heap.size ≤ gb148))
                have n7_ := Aside0.mk ((by rw [hg]; exact Nat.ne_of_lt (blk_lt (g := gb139) (o := .cells #[.bool a0_0, .slice (some ad142) l0_1.length c0_1] 39 (0, 0)) (by (with_reducible repeat (first | refine blk_drewN ?_ _ | refine blk_drew ?_ | refine blk_alloc ?_ _)); exact BK139.out)) : gb139 ≠ gb148))
                have n8_ := Aside0.mk ((by rw [hg]; exact Nat.ne_of_gt (blk_lt (g := gb139) (o := .cells #[.bool a0_0, .slice (some ad142) l0_1.length c0_1] 39 (0, 0)) (by (with_reducible repeat (first | refine blk_drewN ?_ _ | refine blk_drew ?_ | refine blk_alloc ?_ _)); exact BK139.out)) : gb148 ≠ gb139))
                have n9_ := Aside0.mk ((by rw [hg]; exact Nat.ne_of_lt (blk_lt (g := gb140) (o := .cells #[.int .i64 0, .int .i64 0] 34 (0, 0)) (by (with_reducible repeat (first | refine blk_drewN ?_ _ | refine blk_drew ?_ | refine blk_alloc ?_ _)); exact BK140.out)) : gb140 ≠ gb148))
                have n10_ := Aside0.mk ((by rw [hg]; exact Nat.ne_of_gt (blk_lt (g := gb140) (o := .cells #[.int .i64 0, .int .i64 0] 34 (0, 0)) (by (with_reducible repeat (first | refine blk_drewN ?_ _ | refine blk_drew ?_ | refine blk_alloc ?_ _)); exact BK140.out)) : gb148 ≠ gb140))
                have n11_ := Aside0.mk ((by rw [hg]; exact Nat.ne_of_lt (blk_lt (g := gb141) (o := .cells #[.int .i64 0, .int .i64 0] 34 (0, 0)) (by (with_reducible repeat (first | refine blk_drewN ?_ _ | refine blk_drew ?_ | refine blk_alloc ?_ _)); exact BK141.out)) : gb141 ≠ gb148))
                have n12_ := Aside0.mk ((by rw [hg]; exact Nat.ne_of_gt (blk_lt (g := gb141) (o := .cells #[.int .i64 0, .int .i64 0] 34 (0, 0)) (by (with_reducible repeat (first | refine blk_drewN ?_ _ | refine blk_drew ?_ | refine blk_alloc ?_ _)); exact BK141.out)) : gb148 ≠ gb141))
                clear BK139
                clear BK140
                clear BK141
                clear HB
                have BK139 := n0_
                have BK140 := n1_
                have BK141 := n2_
                have HB := n3_
                have BK148 := n4_
                have GW148 := n5_
                have GE148 := n6_
                have NB139_148 := n7_
                have NB148_139 := n8_
                have NB140_148 := n9_
                have NB148_140 := n10_
                have NB141_148 := n11_
                have NB148_141 := n12_
                clear n0_ n1_ n2_ n3_ n4_ n5_ n6_ n7_ n8_ n9_ n10_ n11_ n12_
                clear hb hbox hg
                refine hK.out _ _ ⟨(blk_cell BK139.out 0).trans rfl, (blk_cell BK139.out 1).trans rfl, ((HB.out.cell (World.block_lt_of_cell? w _ hw142_0)).trans hw142_0), ((HB.out.cell (World.block_lt_of_cell? w _ hw142_1)).trans hw142_1), ((HB.out.cell (World.block_lt_of_cell? w _ hw145_0)).trans hw145_0), ((HB.out.cell (World.block_lt_of_cell? w _ hw145_1)).trans hw145_1)⟩ (fun hHeld => ?_)
                clear hK K
                refine norm_ (a' := ?_) ?_ ?_
                rotate_left
                ·show Act.put _ (some 7) _ = _
                 simp only [Act.put, List.setIfInBounds_toArray, List.set_cons_zero, List.set_cons_succ, i64_w, i32_w]
                 rfl
                exact norm_ (by first | (simp only [putAll, Act.put, List.setIfInBounds_toArray, List.set_cons_zero, List.set_cons_succ]; done) | (simp only [putAll, Act.put, List.setIfInBounds_toArray, List.set_cons_zero, List.set_cons_succ]; rfl)) (hJ5_17 (gb148) _ ⟨hHeld, (by (with_reducible repeat (first | refine blk_drewN ?_ _ | refine blk_drew ?_ | refine blk_alloc ?_ _)); exact BK139.out), (by (with_reducible repeat (first | refine blk_drewN ?_ _ | refine blk_drew ?_ | refine blk_alloc ?_ _)); exact BK140.out), (by (with_reducible repeat (first | refine blk_drewN ?_ _ | refine blk_drew ?_ | refine blk_alloc ?_ _)); exact BK141.out), (by (with_reducible repeat (first | refine blk_drewN ?_ _ | refine blk_drew ?_ | refine blk_alloc ?_ _)); exact BK148.out), GW148.out, GE148.out, NB139_148.out, NB148_139.out, NB140_148.out, NB148_140.out, NB141_148.out, NB148_141.out, (by repeat (first | (with_reducible first | exact HB.out | apply below_alloc | apply pw_below_drewN | apply below_drew1 | refine below_set ?_ GE139.out | refine below_set ?_ GE140.out | refine below_set ?_ GE141.out | refine below_set ?_ GE148.out) | exact HB.out))⟩)
               ·skip
                refine box_step ?hg (N := 8) ?hd (cs := #[.int .i64 0, .int .i64 0]) (t := 34) ?hr ?_; (case hd => rfl); (case hg => rfl); (case hr => first | (go_simp; done) | (go_simp; rfl))
                intro gb149 hg w18 hbox hb
                have n0_ := Aside0.mk (blk_below (g := gb139) (o := .cells #[.bool a0_0, .slice (some ad142) l0_1.length c0_1] 39 (0, 0)) (by (with_reducible repeat (first | refine blk_drewN ?_ _ | refine blk_drew ?_ | refine blk_alloc ?_ _)); exact BK139.out) hb)
                have n1_ := Aside0.mk (blk_below (g := gb140) (o := .cells #[.int .i64 0, .int .i64 0] 34 (0, 0)) (by (with_reducible repeat (first | refine blk_drewN ?_ _ | refine blk_drew ?_ | refine blk_alloc ?_ _)); exact BK140.out) hb)
                have n2_ := Aside0.mk (blk_below (g := gb141) (o := .cells #[.int .i64 0, .int .i64 0] 34 (0, 0)) (by (with_reducible repeat (first | refine blk_drewN ?_ _ | refine blk_drew ?_ | refine blk_alloc ?_ _)); exact BK141.out) hb)
                have n3_ := Aside0.mk (below_step (by repeat (first | (with_reducible first | exact HB.out | apply below_alloc | apply pw_below_drewN | apply below_drew1 | refine below_set ?_ GE139.out | refine below_set ?_ GE140.out | refine below_set ?_ GE141.out) | exact HB.out)) hb)
                have n4_ := Aside0.mk (hbox)
                have n5_ := Aside0.mk ((by rw [hg]; exact (below_size (by repeat (first | (with_reducible first | exact HB.out | apply below_alloc | apply pw_below_drewN | apply below_drew1 | refine below_set ?_ GE139.out | refine below_set ?_ GE140.out | refine below_set ?_ GE141.out) | exact HB.out))) : w.heap.size ≤ gb149))
                have n6_ := Aside0.mk ((by rw [hg]; exact (below_size (by repeat (first | (with_reducible first | exact HB.out | apply below_alloc | apply pw_below_drewN | apply below_drew1 | refine below_set ?_ GE139.out | refine below_set ?_ GE140.out | refine below_set ?_ GE141.out) | exact HB.out))) : w.heap.size ≤ gb149))
                have n7_ := Aside0.mk ((by rw [hg]; exact Nat.ne_of_lt (blk_lt (g := gb139) (o := .cells #[.bool a0_0, .slice (some ad142) l0_1.length c0_1] 39 (0, 0)) (by (with_reducible repeat (first | refine blk_drewN ?_ _ | refine blk_drew ?_ | refine blk_alloc ?_ _)); exact BK139.out)) : gb139 ≠ gb149))
                have n8_ := Aside0.mk ((by rw [hg]; exact Nat.ne_of_gt (blk_lt (g := gb139) (o := .cells #[.bool a0_0, .slice (some ad142) l0_1.length c0_1] 39 (0, 0)) (by (with_reducible repeat (first | refine blk_drewN ?_ _ | refine blk_drew ?_ | refine blk_alloc ?_ _)); exact BK139.out)) : gb149 ≠ gb139))
                have n9_ := Aside0.mk ((by rw [hg]; exact Nat.ne_of_lt (blk_lt (g := gb140) (o := .cells #[.int .i64 0, .int .i64 0] 34 (0, 0)) (by (with_reducible repeat (first | refine blk_drewN ?_ _ | refine blk_drew ?_ | refine blk_alloc ?_ _)); exact BK140.out)) : gb140 ≠ gb149))
                have n10_ := Aside0.mk ((by rw [hg]; exact Nat.ne_of_gt (blk_lt (g := gb140) (o := .cells #[.int .i64 0, .int .i64 0] 34 (0, 0)) (by (with_reducible repeat (first | refine blk_drewN ?_ _ | refine blk_drew ?_ | refine blk_alloc ?_ _)); exact BK140.out)) : gb149 ≠ gb140))
                have n11_ := Aside0.mk ((by rw [hg]; exact Nat.ne_of_lt (blk_lt (g := gb141) (o := .cells #[.int .i64 0, .int .i64 0] 34 (0, 0)) (by (with_reducible repeat (first | refine blk_drewN ?_ _ | refine blk_drew ?_ | refine blk_alloc ?_ _)); exact BK141.out)) : gb141 ≠ gb149))
                have n12_ := Aside0.mk ((by rw [hg]; exact Nat.ne_of_gt (blk_lt (g := gb141) (o := .cells #[.int .i64 0, .int .i64 0] 34 (0, 0)) (by (with_reducible repeat (first | refine blk_drewN ?_ _ | refine blk_drew ?_ | refine blk_alloc ?_ _)); exact BK141.out)) : gb149 ≠ gb141))
                clear BK139
                clear BK140
                clear BK141
                clear HB
                have BK139 := n0_
                have BK140 := n1_
                have BK141 := n2_
                have HB := n3_
                have BK149 := n4_
                have GW149 := n5_
                have GE149 := n6_
                have NB139_149 := n7_
                have NB149_139 := n8_
                have NB140_149 := n9_
                have NB149_140 := n10_
                have NB141_149 := n11_
                have NB149_141 := n12_
                clear n0_ n1_ n2_ n3_ n4_ n5_ n6_ n7_ n8_ n9_ n10_ n11_ n12_
                clear hb hbox hg
                refine hK.out _ _ ⟨(blk_cell BK139.out 0).trans rfl, (blk_cell BK139.out 1).trans rfl, ((HB.out.cell (World.block_lt_of_cell? w _ hw142_0)).trans hw142_0), ((HB.out.cell (World.block_lt_of_cell? w _ hw142_1)).trans hw142_1), ((HB.out.cell (World.block_lt_of_cell? w _ hw145_0)).trans hw145_0), ((HB.out.cell (World.block_lt_of_cell? w _ hw145_1)).trans hw145_1)⟩ (fun hHeld => ?_)
                clear hK K
                refine norm_ (a' := ?_) ?_ ?_
                rotate_left
                ·show Act.put _ (some 8) _ = _
                 simp only [Act.put, List.setIfInBounds_toArray, List.set_cons_zero, List.set_cons_succ, i64_w, i32_w]
                 rfl
                exact norm_ (by first | (simp only [putAll, Act.put, List.setIfInBounds_toArray, List.set_cons_zero, List.set_cons_succ]; done) | (simp only [putAll, Act.put, List.setIfInBounds_toArray, List.set_cons_zero, List.set_cons_succ]; rfl)) (hJ5_18 (gb149) _ ⟨hHeld, (by (with_reducible repeat (first | refine blk_drewN ?_ _ | refine blk_drew ?_ | refine blk_alloc ?_ _)); exact BK139.out), (by (with_reducible repeat (first | refine blk_drewN ?_ _ | refine blk_drew ?_ | refine blk_alloc ?_ _)); exact BK140.out), (by (with_reducible repeat (first | refine blk_drewN ?_ _ | refine blk_drew ?_ | refine blk_alloc ?_ _)); exact BK141.out), (by (with_reducible repeat (first | refine blk_drewN ?_ _ | refine blk_drew ?_ | refine blk_alloc ?_ _)); exact BK149.out), GW149.out, GE149.out, NB139_149.out, NB149_139.out, NB140_149.out, NB149_140.out, NB141_149.out, NB149_141.out, (by repeat (first | (with_reducible first | exact HB.out | apply below_alloc | apply pw_below_drewN | apply below_drew1 | refine below_set ?_ GE139.out | refine below_set ?_ GE140.out | refine below_set ?_ GE141.out | refine below_set ?_ GE149.out) | exact HB.out))⟩)
             ·skip
              rintro ⟨gb148, gb149⟩ w18 ⟨hS_, h0_, h1_, h2_, h3_, h4_, h5_, h6_, h7_, h8_, h9_, h10_, h11_, h12_, h13_, h14_, h15_, h16_, h17_, h18_, h19_, h20_, h21_, h22_, h23_⟩
              have n0_ : Aside0 (w18.heap[gb139]? = some (.cells #[.bool a0_0, .slice (some ad142) l0_1.length c0_1] 39 (0, 0))) := ⟨h0_⟩
              have n1_ : Aside0 (w18.heap[gb140]? = some (.cells #[.int .i64 0, .int .i64 0] 34 (0, 0))) := ⟨h1_⟩
              have n2_ : Aside0 (w18.heap[gb141]? = some (.cells #[.int .i64 0, .int .i64 0] 34 (0, 0))) := ⟨h2_⟩
              have n3_ : Aside0 (w18.heap[gb148]? = some (.cells #[.int .i64 0, .int .i64 0] 34 (0, 0))) := ⟨h3_⟩
              have n4_ : Aside0 (w18.heap[gb149]? = some (.cells #[.int .i64 0, .int .i64 0] 34 (0, 0))) := ⟨h4_⟩
              have n5_ : Aside0 (w.heap.size ≤ gb148) := ⟨h5_⟩
              have n6_ : Aside0 (w.heap.size ≤ gb148) := ⟨h6_⟩
              have n7_ : Aside0 (gb139 ≠ gb148) := ⟨h7_⟩
              have n8_ : Aside0 (gb148 ≠ gb139) := ⟨h8_⟩
              have n9_ : Aside0 (gb140 ≠ gb148) := ⟨h9_⟩
              have n10_ : Aside0 (gb148 ≠ gb140) := ⟨h10_⟩
              have n11_ : Aside0 (gb141 ≠ gb148) := ⟨h11_⟩
              have n12_ : Aside0 (gb148 ≠ gb141) := ⟨h12_⟩
              have n13_ : Aside0 (gb149 ≠ gb148) := ⟨h13_⟩
              have n14_ : Aside0 (gb148 ≠ gb149) := ⟨h14_⟩
              have n15_ : Aside0 (w.heap.size ≤ gb149) := ⟨h15_⟩
              have n16_ : Aside0 (w.heap.size ≤ gb149) := ⟨h16_⟩
              have n17_ : Aside0 (gb139 ≠ gb149) := ⟨h17_⟩
              have n18_ : Aside0 (gb149 ≠ gb139) := ⟨h18_⟩
              have n19_ : Aside0 (gb140 ≠ gb149) := ⟨h19_⟩
              have n20_ : Aside0 (gb149 ≠ gb140) := ⟨h20_⟩
              have n21_ : Aside0 (gb141 ≠ gb149) := ⟨h21_⟩
              have n22_ : Aside0 (gb149 ≠ gb141) := ⟨h22_⟩
              have n23_ : Aside0 (Below w.heap.size w w18) := ⟨h23_⟩
              clear BK139
              clear BK140
              clear BK141
              clear HB
              clear h0_ h1_ h2_ h3_ h4_ h5_ h6_ h7_ h8_ h9_ h10_ h11_ h12_ h13_ h14_ h15_ h16_ h17_ h18_ h19_ h20_ h21_ h22_ h23_
              have BK139 := n0_
              have BK140 := n1_
              have BK141 := n2_
              have BK148 := n3_
              have BK149 := n4_
              have GW148 := n5_
              have GE148 := n6_
              have NB139_148 := n7_
              have NB148_139 := n8_
              have NB140_148 := n9_
              have NB148_140 := n10_
              have NB141_148 := n11_
              have NB148_141 := n12_
              have NB149_148 := n13_
              have NB148_149 := n14_
              have GW149 := n15_
              have GE149 := n16_
              have NB139_149 := n17_
              have NB149_139 := n18_
              have NB140_149 := n19_
              have NB149_140 := n20_
              have NB141_149 := n21_
              have NB149_141 := n22_
              have HB := n23_
              clear n0_ n1_ n2_ n3_ n4_ n5_ n6_ n7_ n8_ n9_ n10_ n11_ n12_ n13_ n14_ n15_ n16_ n17_ n18_ n19_ n20_ n21_ n22_ n23_
              have hHeld : w18.cell? ⟨gb139, 0, none⟩ = some (.bool a0_0) ∧ w18.cell? ⟨gb139, 1, none⟩ = some (.slice (some ad142) l0_1.length c0_1) ∧ w18.cell? (ad142.add ((a1).toNat * 2)) = some (.int .i64 ((rd_T34 l0_1 a1).f0)) ∧ w18.cell? ⟨(ad142.add ((a1).toNat * 2)).block, (ad142.add ((a1).toNat * 2)).off + 1, none⟩ = some (.int .i64 ((rd_T34 l0_1 a1).f1)) ∧ w18.cell? (ad142.add (((ji7)).toNat * 2)) = some (.int .i64 ((rd_T34 l0_1 (ji7)).f0)) ∧ w18.cell? ⟨(ad142.add (((ji7)).toNat * 2)).block, (ad142.add (((ji7)).toNat * 2)).off + 1, none⟩ = some (.int .i64 ((rd_T34 l0_1 (ji7)).f1)) := hS_
              refine norm_ (a' := ?_) ?_ ?_
              rotate_left
              ·simp only [putAll, Act.put, List.setIfInBounds_toArray, List.set_cons_zero, List.set_cons_succ]
               rfl
              refine one_ (i := 5) (N := some 14) #[true, true, true, true, true, true, true, true, true, true, true, true, true, true, true, true, false, true, true, false, false] rfl rfl (one_of HT_.out (by kernel_rfl)) (by decide) (fun K hK => ?_)
              refine goes_ Try.func71 (by kernel_rfl) rfl #[.agg #[.int .i64 ((rd_T34 l0_1 a1).f0), .int .i64 ((rd_T34 l0_1 a1).f1)]] (by rfl) rfl rfl (by (try simp only [List.map_toArray, List.map_cons, List.map_nil]); first | done | rfl | (simp only [List.length_drop, List.length_take]; rfl)) ?_
              with_reducible refine (arc_place.calls ((rd_T34 l0_1 a1).f0) ((rd_T34 l0_1 a1).f1) t143 t144 _ A5.out).mono ?_
              rintro e w19 ⟨rfl, hb⟩
              refine ⟨_, rfl, ?_⟩
              have n0_ := Aside0.mk (blk_below (g := gb139) (o := .cells #[.bool a0_0, .slice (some ad142) l0_1.length c0_1] 39 (0, 0)) (by (with_reducible repeat (first | refine blk_drewN ?_ _ | refine blk_drew ?_ | refine blk_alloc ?_ _)); exact BK139.out) hb)
              have n1_ := Aside0.mk (blk_below (g := gb140) (o := .cells #[.int .i64 0, .int .i64 0] 34 (0, 0)) (by (with_reducible repeat (first | refine blk_drewN ?_ _ | refine blk_drew ?_ | refine blk_alloc ?_ _)); exact BK140.out) hb)
              have n2_ := Aside0.mk (blk_below (g := gb141) (o := .cells #[.int .i64 0, .int .i64 0] 34 (0, 0)) (by (with_reducible repeat (first | refine blk_drewN ?_ _ | refine blk_drew ?_ | refine blk_alloc ?_ _)); exact BK141.out) hb)
              have n3_ := Aside0.mk (blk_below (g := gb148) (o := .cells #[.int .i64 0, .int .i64 0] 34 (0, 0)) (by (with_reducible repeat (first | refine blk_drewN ?_ _ | refine blk_drew ?_ | refine blk_alloc ?_ _)); exact BK148.out) hb)
              have n4_ := Aside0.mk (blk_below (g := gb149) (o := .cells #[.int .i64 0, .int .i64 0] 34 (0, 0)) (by (with_reducible repeat (first | refine blk_drewN ?_ _ | refine blk_drew ?_ | refine blk_alloc ?_ _)); exact BK149.out) hb)
              have n5_ := Aside0.mk (below_step (by repeat (first | (with_reducible first | exact HB.out | apply below_alloc | apply pw_below_drewN | apply below_drew1 | refine below_set ?_ GE139.out | refine below_set ?_ GE140.out | refine below_set ?_ GE141.out | refine below_set ?_ GE148.out | refine below_set ?_ GE149.out) | exact HB.out)) hb)
              clear BK139
              clear BK140
              clear BK141
              clear BK148
              clear BK149
              clear HB
              have BK139 := n0_
              have BK140 := n1_
              have BK141 := n2_
              have BK148 := n3_
              have BK149 := n4_
              have HB := n5_
              clear n0_ n1_ n2_ n3_ n4_ n5_
              (try clear hb)
              (try clear hb2)
              (try clear hk)
              (try clear hi)
              refine hK.out _ _ ⟨(blk_cell BK139.out 0).trans rfl, (blk_cell BK139.out 1).trans rfl, ((HB.out.cell (World.block_lt_of_cell? w _ hw142_0)).trans hw142_0), ((HB.out.cell (World.block_lt_of_cell? w _ hw142_1)).trans hw142_1), ((HB.out.cell (World.block_lt_of_cell? w _ hw145_0)).trans hw145_0), ((HB.out.cell (World.block_lt_of_cell? w _ hw145_1)).trans hw145_1)⟩ (fun hHeld => ?_)
              clear hK K
              refine norm_ (a' := ?_) ?_ ?_
              rotate_left
              ·show Act.put _ (some 14) _ = _
               simp only [Act.put, List.setIfInBounds_toArray, List.set_cons_zero, List.set_cons_succ, i64_w, i32_w]
               rfl
              exact norm_ (by first | (simp only [putAll, Act.put, List.setIfInBounds_toArray, List.set_cons_zero, List.set_cons_succ]; done) | (simp only [putAll, Act.put, List.setIfInBounds_toArray, List.set_cons_zero, List.set_cons_succ]; rfl)) (hJ5_17_18 (gb148, gb149) _ ⟨hHeld, (by (with_reducible repeat (first | refine blk_drewN ?_ _ | refine blk_drew ?_ | refine blk_alloc ?_ _)); exact BK139.out), (by (with_reducible repeat (first | refine blk_drewN ?_ _ | refine blk_drew ?_ | refine blk_alloc ?_ _)); exact BK140.out), (by (with_reducible repeat (first | refine blk_drewN ?_ _ | refine blk_drew ?_ | refine blk_alloc ?_ _)); exact BK141.out), (by (with_reducible repeat (first | refine blk_drewN ?_ _ | refine blk_drew ?_ | refine blk_alloc ?_ _)); exact BK148.out), (by (with_reducible repeat (first | refine blk_drewN ?_ _ | refine blk_drew ?_ | refine blk_alloc ?_ _)); exact BK149.out), GW148.out, GE148.out, NB139_148.out, NB148_139.out, NB140_148.out, NB148_140.out, NB141_148.out, NB148_141.out, NB149_148.out, NB148_149.out, GW149.out, GE149.out, NB139_149.out, NB149_139.out, NB140_149.out, NB149_140.out, NB141_149.out, NB149_141.out, (by repeat (first | (with_reducible first | exact HB.out | apply below_alloc | apply pw_below_drewN | apply below_drew1 | refine below_set ?_ GE139.out | refine below_set ?_ GE140.out | refine below_set ?_ GE141.out | refine below_set ?_ GE148.out | refine below_set ?_ GE149.out) | exact HB.out))⟩)
            ·skip
             rintro gb149 w18 ⟨hS_, h0_, h1_, h2_, h3_, h4_, h5_, h6_, h7_, h8_, h9_, h10_, h11_, h12_⟩
             have n0_ : Aside0 (w18.heap[gb139]? = some (.cells #[.bool a0_0, .slice (some ad142) l0_1.length c0_1] 39 (0, 0))) := ⟨h0_⟩
             have n1_ : Aside0 (w18.heap[gb140]? = some (.cells #[.int .i64 0, .int .i64 0] 34 (0, 0))) := ⟨h1_⟩
             have n2_ : Aside0 (w18.heap[gb141]? = some (.cells #[.int .i64 0, .int .i64 0] 34 (0, 0))) := ⟨h2_⟩
             have n3_ : Aside0 (w18.heap[gb149]? = some (.cells #[.int .i64 0, .int .i64 0] 34 (0, 0))) := ⟨h3_⟩
             have n4_ : Aside0 (w.heap.size ≤ gb149) := ⟨h4_⟩
             have n5_ : Aside0 (w.heap.size ≤ gb149) := ⟨h5_⟩
             have n6_ : Aside0 (gb139 ≠ gb149) := ⟨h6_⟩
             have n7_ : Aside0 (gb149 ≠ gb139) := ⟨h7_⟩
             have n8_ : Aside0 (gb140 ≠ gb149) := ⟨h8_⟩
             have n9_ : Aside0 (gb149 ≠ gb140) := ⟨h9_⟩
             have n10_ : Aside0 (gb141 ≠ gb149) := ⟨h10_⟩
             have n11_ : Aside0 (gb149 ≠ gb141) := ⟨h11_⟩
             have n12_ : Aside0 (Below w.heap.size w w18) := ⟨h12_⟩
             clear BK139
             clear BK140
             clear BK141
             clear HB
             clear h0_ h1_ h2_ h3_ h4_ h5_ h6_ h7_ h8_ h9_ h10_ h11_ h12_
             have BK139 := n0_
             have BK140 := n1_
             have BK141 := n2_
             have BK149 := n3_
             have GW149 := n4_
             have GE149 := n5_
             have NB139_149 := n6_
             have NB149_139 := n7_
             have NB140_149 := n8_
             have NB149_140 := n9_
             have NB141_149 := n10_
             have NB149_141 := n11_
             have HB := n12_
             clear n0_ n1_ n2_ n3_ n4_ n5_ n6_ n7_ n8_ n9_ n10_ n11_ n12_
             have hHeld : w18.cell? ⟨gb139, 0, none⟩ = some (.bool a0_0) ∧ w18.cell? ⟨gb139, 1, none⟩ = some (.slice (some ad142) l0_1.length c0_1) ∧ w18.cell? (ad142.add ((a1).toNat * 2)) = some (.int .i64 ((rd_T34 l0_1 a1).f0)) ∧ w18.cell? ⟨(ad142.add ((a1).toNat * 2)).block, (ad142.add ((a1).toNat * 2)).off + 1, none⟩ = some (.int .i64 ((rd_T34 l0_1 a1).f1)) ∧ w18.cell? (ad142.add (((ji7)).toNat * 2)) = some (.int .i64 ((rd_T34 l0_1 (ji7)).f0)) ∧ w18.cell? ⟨(ad142.add (((ji7)).toNat * 2)).block, (ad142.add (((ji7)).toNat * 2)).off + 1, none⟩ = some (.int .i64 ((rd_T34 l0_1 (ji7)).f1)) := hS_
             refine norm_ (a' := ?_) ?_ ?_
             rotate_left
             ·simp only [putAll, Act.put, List.setIfInBounds_toArray, List.set_cons_zero, List.set_cons_succ]
              rfl
             refine two_ (i := 16) (j := 17) (Ni := some 25) (Nj := some 7) #[true, true, true, true, true, true, true, true, true, true, true, true, true, true, true, true, true, false, true, false, false] #[true, true, true, true, true, true, true, true, true, true, true, true, true, true, true, true, false, true, true, false, false] rfl rfl rfl rfl (two_of HT_.out (by kernel_rfl)) (by decide) (by decide) (fun K hK => ?_) (fun K hK => ?_)
             ·skip
              refine goes_ Try.func71 (by kernel_rfl) rfl #[.agg #[.int .i64 ((rd_T34 l0_1 (ji7)).f0), .int .i64 ((rd_T34 l0_1 (ji7)).f1)]] (by rfl) rfl rfl (by (try simp only [List.map_toArray, List.map_cons, List.map_nil]); first | done | (simp only [hji7]; rfl) | rfl | (simp only [List.length_drop, List.length_take]; rfl)) ?_
              with_reducible refine (arc_place.calls ((rd_T34 l0_1 (ji7)).f0) ((rd_T34 l0_1 (ji7)).f1) t146 t147 _ A10.out).mono ?_
              rintro e w19 ⟨rfl, hb⟩
              refine ⟨_, rfl, ?_⟩
              have n0_ := Aside0.mk (blk_below (g := gb139) (o := .cells #[.bool a0_0, .slice (some ad142) l0_1.length c0_1] 39 (0, 0)) (by (with_reducible repeat (first | refine blk_drewN ?_ _ | refine blk_drew ?_ | refine blk_alloc ?_ _)); exact BK139.out) hb)
              have n1_ := Aside0.mk (blk_below (g := gb140) (o := .cells #[.int .i64 0, .int .i64 0] 34 (0, 0)) (by (with_reducible repeat (first | refine blk_drewN ?_ _ | refine blk_drew ?_ | refine blk_alloc ?_ _)); exact BK140.out) hb)
              have n2_ := Aside0.mk (blk_below (g := gb141) (o := .cells #[.int .i64 0, .int .i64 0] 34 (0, 0)) (by (with_reducible repeat (first | refine blk_drewN ?_ _ | refine blk_drew ?_ | refine blk_alloc ?_ _)); exact BK141.out) hb)
              have n3_ := Aside0.mk (blk_below (g := gb149) (o := .cells #[.int .i64 0, .int .i64 0] 34 (0, 0)) (by (with_reducible repeat (first | refine blk_drewN ?_ _ | refine blk_drew ?_ | refine blk_alloc ?_ _)); exact BK149.out) hb)
              have n4_ := Aside0.mk (below_step (by repeat (first | (with_reducible first | exact HB.out | apply below_alloc | apply pw_below_drewN | apply below_drew1 | refine below_set ?_ GE139.out | refine below_set ?_ GE140.out | refine below_set ?_ GE141.out | refine below_set ?_ GE149.out) | exact HB.out)) hb)
              clear BK139
              clear BK140
              clear BK141
              clear BK149
              clear HB
              have BK139 := n0_
              have BK140 := n1_
              have BK141 := n2_
              have BK149 := n3_
              have HB := n4_
              clear n0_ n1_ n2_ n3_ n4_
              (try clear hb)
              (try clear hb2)
              (try clear hk)
              (try clear hi)
              refine hK.out _ _ ⟨(blk_cell BK139.out 0).trans rfl, (blk_cell BK139.out 1).trans rfl, ((HB.out.cell (World.block_lt_of_cell? w _ hw142_0)).trans hw142_0), ((HB.out.cell (World.block_lt_of_cell? w _ hw142_1)).trans hw142_1), ((HB.out.cell (World.block_lt_of_cell? w _ hw145_0)).trans hw145_0), ((HB.out.cell (World.block_lt_of_cell? w _ hw145_1)).trans hw145_1)⟩ (fun hHeld => ?_)
              clear hK K
              refine norm_ (a' := ?_) ?_ ?_
              rotate_left
              ·show Act.put _ (some 25) _ = _
               simp only [Act.put, List.setIfInBounds_toArray, List.set_cons_zero, List.set_cons_succ, i64_w, i32_w]
               rfl
              exact norm_ (by first | (simp only [putAll, Act.put, List.setIfInBounds_toArray, List.set_cons_zero, List.set_cons_succ]; done) | (simp only [putAll, Act.put, List.setIfInBounds_toArray, List.set_cons_zero, List.set_cons_succ]; rfl)) (hJ5_16_18 (gb149) _ ⟨hHeld, (by (with_reducible repeat (first | refine blk_drewN ?_ _ | refine blk_drew ?_ | refine blk_alloc ?_ _)); exact BK139.out), (by (with_reducible repeat (first | refine blk_drewN ?_ _ | refine blk_drew ?_ | refine blk_alloc ?_ _)); exact BK140.out), (by (with_reducible repeat (first | refine blk_drewN ?_ _ | refine blk_drew ?_ | refine blk_alloc ?_ _)); exact BK141.out), (by (with_reducible repeat (first | refine blk_drewN ?_ _ | refine blk_drew ?_ | refine blk_alloc ?_ _)); exact BK149.out), GW149.out, GE149.out, NB139_149.out, NB149_139.out, NB140_149.out, NB149_140.out, NB141_149.out, NB149_141.out, (by repeat (first | (with_reducible first | exact HB.out | apply below_alloc | apply pw_below_drewN | apply below_drew1 | refine below_set ?_ GE139.out | refine below_set ?_ GE140.out | refine below_set ?_ GE141.out | refine below_set ?_ GE149.out) | exact HB.out))⟩)
             ·skip
              refine box_step ?hg (N := 7) ?hd (cs := #[.int .i64 0, .int .i64 0]) (t := 34) ?hr ?_; (case hd => rfl); (case hg => rfl); (case hr => first | (go_simp; done) | (go_simp; rfl))
              intro gb148 hg w19 hbox hb
              have n0_ := Aside0.mk (blk_below (g := gb139) (o := .cells #[.bool a0_0, .slice (some ad142) l0_1.length c0_1] 39 (0, 0)) (by (with_reducible repeat (first | refine blk_drewN ?_ _ | refine blk_drew ?_ | refine blk_alloc ?_ _)); exact BK139.out) hb)
              have n1_ := Aside0.mk (blk_below (g := gb140) (o := .cells #[.int .i64 0, .int .i64 0] 34 (0, 0)) (by (with_reducible repeat (first | refine blk_drewN ?_ _ | refine blk_drew ?_ | refine blk_alloc ?_ _)); exact BK140.out) hb)
              have n2_ := Aside0.mk (blk_below (g := gb141) (o := .cells #[.int .i64 0, .int .i64 0] 34 (0, 0)) (by (with_reducible repeat (first | refine blk_drewN ?_ _ | refine blk_drew ?_ | refine blk_alloc ?_ _)); exact BK141.out) hb)
              have n3_ := Aside0.mk (blk_below (g := gb149) (o := .cells #[.int .i64 0, .int .i64 0] 34 (0, 0)) (by (with_reducible repeat (first | refine blk_drewN ?_ _ | refine blk_drew ?_ | refine blk_alloc ?_ _)); exact BK149.out) hb)
              have n4_ := Aside0.mk (below_step (by repeat (first | (with_reducible first | exact HB.out | apply below_alloc | apply pw_below_drewN | apply below_drew1 | refine below_set ?_ GE139.out | refine below_set ?_ GE140.out | refine below_set ?_ GE141.out | refine below_set ?_ GE149.out) | exact HB.out)) hb)
              have n5_ := Aside0.mk (hbox)
              have n6_ := Aside0.mk ((by rw [hg]; exact (below_size (by repeat (first | (with_reducible first | exact HB.out | apply below_alloc | apply pw_below_drewN | apply below_drew1 | refine below_set ?_ GE139.out | refine below_set ?_ GE140.out | refine below_set ?_ GE141.out | refine below_set ?_ GE149.out) | exact HB.out))) : w.heap.size ≤ gb148))
              have n7_ := Aside0.mk ((by rw [hg]; exact (below_size (by repeat (first | (with_reducible first | exact HB.out | apply below_alloc | apply pw_below_drewN | apply below_drew1 | refine below_set ?_ GE139.out | refine below_set ?_ GE140.out | refine below_set ?_ GE141.out | refine below_set ?_ GE149.out) | exact HB.out))) : w.heap.size ≤ gb148))
              have n8_ := Aside0.mk ((by rw [hg]; exact Nat.ne_of_lt (blk_lt (g := gb139) (o := .cells #[.bool a0_0, .slice (some ad142) l0_1.length c0_1] 39 (0, 0)) (by (with_reducible repeat (first | refine blk_drewN ?_ _ | refine blk_drew ?_ | refine blk_alloc ?_ _)); exact BK139.out)) : gb139 ≠ gb148))
              have n9_ := Aside0.mk ((by rw [hg]; exact Nat.ne_of_gt (blk_lt (g := gb139) (o := .cells #[.bool a0_0, .slice (some ad142) l0_1.length c0_1] 39 (0, 0)) (by (with_reducible repeat (first | refine blk_drewN ?_ _ | refine blk_drew ?_ | refine blk_alloc ?_ _)); exact BK139.out)) : gb148 ≠ gb139))
              have n10_ := Aside0.mk ((by rw [hg]; exact Nat.ne_of_lt (blk_lt (g := gb140) (o := .cells #[.int .i64 0, .int .i64 0] 34 (0, 0)) (by (with_reducible repeat (first | refine blk_drewN ?_ _ | refine blk_drew ?_ | refine blk_alloc ?_ _)); exact BK140.out)) : gb140 ≠ gb148))
              have n11_ := Aside0.mk ((by rw [hg]; exact Nat.ne_of_gt (blk_lt (g := gb140) (o := .cells #[.int .i64 0, .int .i64 0] 34 (0, 0)) (by (with_reducible repeat (first | refine blk_drewN ?_ _ | refine blk_drew ?_ | refine blk_alloc ?_ _)); exact BK140.out)) : gb148 ≠ gb140))
              have n12_ := Aside0.mk ((by rw [hg]; exact Nat.ne_of_lt (blk_lt (g := gb141) (o := .cells #[.int .i64 0, .int .i64 0] 34 (0, 0)) (by (with_reducible repeat (first | refine blk_drewN ?_ _ | refine blk_drew ?_ | refine blk_alloc ?_ _)); exact BK141.out)) : gb141 ≠ gb148))
              have n13_ := Aside0.mk ((by rw [hg]; exact Nat.ne_of_gt (blk_lt (g := gb141) (o := .cells #[.int .i64 0, .int .i64 0] 34 (0, 0)) (by (with_reducible repeat (first | refine blk_drewN ?_ _ | refine blk_drew ?_ | refine blk_alloc ?_ _)); exact BK141.out)) : gb148 ≠ gb141))
              have n14_ := Aside0.mk ((by rw [hg]; exact Nat.ne_of_lt (blk_lt (g := gb149) (o := .cells #[.int .i64 0, .int .i64 0] 34 (0, 0)) (by (with_reducible repeat (first | refine blk_drewN ?_ _ | refine blk_drew ?_ | refine blk_alloc ?_ _)); exact BK149.out)) : gb149 ≠ gb148))
              have n15_ := Aside0.mk ((by rw [hg]; exact Nat.ne_of_gt (blk_lt (g := gb149) (o := .cells #[.int .i64 0, .int .i64 0] 34 (0, 0)) (by (with_reducible repeat (first | refine blk_drewN ?_ _ | refine blk_drew ?_ | refine blk_alloc ?_ _)); exact BK149.out)) : gb148 ≠ gb149))
              clear BK139
              clear BK140
              clear BK141
              clear BK149
              clear HB
              have BK139 := n0_
              have BK140 := n1_
              have BK141 := n2_
              have BK149 := n3_
              have HB := n4_
              have BK148 := n5_
              have GW148 := n6_
              have GE148 := n7_
              have NB139_148 := n8_
              have NB148_139 := n9_
              have NB140_148 := n10_
              have NB148_140 := n11_
              have NB141_148 := n12_
              have NB148_141 := n13_
              have NB149_148 := n14_
              have NB148_149 := n15_
              clear n0_ n1_ n2_ n3_ n4_ n5_ n6_ n7_ n8_ n9_ n10_ n11_ n12_ n13_ n14_ n15_
              clear hb hbox hg
              refine hK.out _ _ ⟨(blk_cell BK139.out 0).trans rfl, (blk_cell BK139.out 1).trans rfl, ((HB.out.cell (World.block_lt_of_cell? w _ hw142_0)).trans hw142_0), ((HB.out.cell (World.block_lt_of_cell? w _ hw142_1)).trans hw142_1), ((HB.out.cell (World.block_lt_of_cell? w _ hw145_0)).trans hw145_0), ((HB.out.cell (World.block_lt_of_cell? w _ hw145_1)).trans hw145_1)⟩ (fun hHeld => ?_)
              clear hK K
              refine norm_ (a' := ?_) ?_ ?_
              rotate_left
              ·show Act.put _ (some 7) _ = _
               simp only [Act.put, List.setIfInBounds_toArray, List.set_cons_zero, List.set_cons_succ, i64_w, i32_w]
               rfl
              exact norm_ (by first | (simp only [putAll, Act.put, List.setIfInBounds_toArray, List.set_cons_zero, List.set_cons_succ]; done) | (simp only [putAll, Act.put, List.setIfInBounds_toArray, List.set_cons_zero, List.set_cons_succ]; rfl)) (hJ5_17_18 (gb148, gb149) _ ⟨hHeld, (by (with_reducible repeat (first | refine blk_drewN ?_ _ | refine blk_drew ?_ | refine blk_alloc ?_ _)); exact BK139.out), (by (with_reducible repeat (first | refine blk_drewN ?_ _ | refine blk_drew ?_ | refine blk_alloc ?_ _)); exact BK140.out), (by (with_reducible repeat (first | refine blk_drewN ?_ _ | refine blk_drew ?_ | refine blk_alloc ?_ _)); exact BK141.out), (by (with_reducible repeat (first | refine blk_drewN ?_ _ | refine blk_drew ?_ | refine blk_alloc ?_ _)); exact BK148.out), (by (with_reducible repeat (first | refine blk_drewN ?_ _ | refine blk_drew ?_ | refine blk_alloc ?_ _)); exact BK149.out), GW148.out, GE148.out, NB139_148.out, NB148_139.out, NB140_148.out, NB148_140.out, NB141_148.out, NB148_141.out, NB149_148.out, NB148_149.out, GW149.out, GE149.out, NB139_149.out, NB149_139.out, NB140_149.out, NB149_140.out, NB141_149.out, NB149_141.out, (by repeat (first | (with_reducible first | exact HB.out | apply below_alloc | apply pw_below_drewN | apply below_drew1 | refine below_set ?_ GE139.out | refine below_set ?_ GE140.out | refine below_set ?_ GE141.out | refine below_set ?_ GE149.out | refine below_set ?_ GE148.out) | exact HB.out))⟩)
           ·skip
            rintro gb148 w18 ⟨hS_, h0_, h1_, h2_, h3_, h4_, h5_, h6_, h7_, h8_, h9_, h10_, h11_, h12_⟩
            have n0_ : Aside0 (w18.heap[gb139]? = some (.cells #[.bool a0_0, .slice (some ad142) l0_1.length c0_1] 39 (0, 0))) := ⟨h0_⟩
            have n1_ : Aside0 (w18.heap[gb140]? = some (.cells #[.int .i64 0, .int .i64 0] 34 (0, 0))) := ⟨h1_⟩
            have n2_ : Aside0 (w18.heap[gb141]? = some (.cells #[.int .i64 0, .int .i64 0] 34 (0, 0))) := ⟨h2_⟩
            have n3_ : Aside0 (w18.heap[gb148]? = some (.cells #[.int .i64 0, .int .i64 0] 34 (0, 0))) := ⟨h3_⟩
            have n4_ : Aside0 (w.heap.size ≤ gb148) := ⟨h4_⟩
            have n5_ : Aside0 (w.heap.size ≤ gb148) := ⟨h5_⟩
            have n6_ : Aside0 (gb139 ≠ gb148) := ⟨h6_⟩
            have n7_ : Aside0 (gb148 ≠ gb139) := ⟨h7_⟩
            have n8_ : Aside0 (gb140 ≠ gb148) := ⟨h8_⟩
            have n9_ : Aside0 (gb148 ≠ gb140) := ⟨h9_⟩
            have n10_ : Aside0 (gb141 ≠ gb148) := ⟨h10_⟩
            have n11_ : Aside0 (gb148 ≠ gb141) := ⟨h11_⟩
            have n12_ : Aside0 (Below w.heap.size w w18) := ⟨h12_⟩
            clear BK139
            clear BK140
            clear BK141
            clear HB
            clear h0_ h1_ h2_ h3_ h4_ h5_ h6_ h7_ h8_ h9_ h10_ h11_ h12_
            have BK139 := n0_
            have BK140 := n1_
            have BK141 := n2_
            have BK148 := n3_
            have GW148 := n4_
            have GE148 := n5_
            have NB139_148 := n6_
            have NB148_139 := n7_
            have NB140_148 := n8_
            have NB148_140 := n9_
            have NB141_148 := n10_
            have NB148_141 := n11_
            have HB := n12_
            clear n0_ n1_ n2_ n3_ n4_ n5_ n6_ n7_ n8_ n9_ n10_ n11_ n12_
            have hHeld : w18.cell? ⟨gb139, 0, none⟩ = some (.bool a0_0) ∧ w18.cell? ⟨gb139, 1, none⟩ = some (.slice (some ad142) l0_1.length c0_1) ∧ w18.cell? (ad142.add ((a1).toNat * 2)) = some (.int .i64 ((rd_T34 l0_1 a1).f0)) ∧ w18.cell? ⟨(ad142.add ((a1).toNat * 2)).block, (ad142.add ((a1).toNat * 2)).off + 1, none⟩ = some (.int .i64 ((rd_T34 l0_1 a1).f1)) ∧ w18.cell? (ad142.add (((ji7)).toNat * 2)) = some (.int .i64 ((rd_T34 l0_1 (ji7)).f0)) ∧ w18.cell? ⟨(ad142.add (((ji7)).toNat * 2)).block, (ad142.add (((ji7)).toNat * 2)).off + 1, none⟩ = some (.int .i64 ((rd_T34 l0_1 (ji7)).f1)) := hS_
            refine norm_ (a' := ?_) ?_ ?_
            rotate_left
            ·simp only [putAll, Act.put, List.setIfInBounds_toArray, List.set_cons_zero, List.set_cons_succ]
             rfl
            refine two_ (i := 16) (j := 18) (Ni := some 25) (Nj := some 8) #[true, true, true, true, true, true, true, true, true, true, true, true, true, true, true, true, true, true, false, false, false] #[true, true, true, true, true, true, true, true, true, true, true, true, true, true, true, true, false, true, true, false, false] rfl rfl rfl rfl (two_of HT_.out (by kernel_rfl)) (by decide) (by decide) (fun K hK => ?_) (fun K hK => ?_)
            ·skip
             refine goes_ Try.func71 (by kernel_rfl) rfl #[.agg #[.int .i64 ((rd_T34 l0_1 (ji7)).f0), .int .i64 ((rd_T34 l0_1 (ji7)).f1)]] (by rfl) rfl rfl (by (try simp only [List.map_toArray, List.map_cons, List.map_nil]); first | done | (simp only [hji7]; rfl) | rfl | (simp only [List.length_drop, List.length_take]; rfl)) ?_
             with_reducible refine (arc_place.calls ((rd_T34 l0_1 (ji7)).f0) ((rd_T34 l0_1 (ji7)).f1) t146 t147 _ A10.out).mono ?_
             rintro e w19 ⟨rfl, hb⟩
             refine ⟨_, rfl, ?_⟩
             have n0_ := Aside0.mk (blk_below (g := gb139) (o := .cells #[.bool a0_0, .slice (some ad142) l0_1.length c0_1] 39 (0, 0)) (by (with_reducible repeat (first | refine blk_drewN ?_ _ | refine blk_drew ?_ | refine blk_alloc ?_ _)); exact BK139.out) hb)
             have n1_ := Aside0.mk (blk_below (g := gb140) (o := .cells #[.int .i64 0, .int .i64 0] 34 (0, 0)) (by (with_reducible repeat (first | refine blk_drewN ?_ _ | refine blk_drew ?_ | refine blk_alloc ?_ _)); exact BK140.out) hb)
             have n2_ := Aside0.mk (blk_below (g := gb141) (o := .cells #[.int .i64 0, .int .i64 0] 34 (0, 0)) (by (with_reducible repeat (first | refine blk_drewN ?_ _ | refine blk_drew ?_ | refine blk_alloc ?_ _)); exact BK141.out) hb)
             have n3_ := Aside0.mk (blk_below (g := gb148) (o := .cells #[.int .i64 0, .int .i64 0] 34 (0, 0)) (by (with_reducible repeat (first | refine blk_drewN ?_ _ | refine blk_drew ?_ | refine blk_alloc ?_ _)); exact BK148.out) hb)
             have n4_ := Aside0.mk (below_step (by repeat (first | (with_reducible first | exact HB.out | apply below_alloc | apply pw_below_drewN | apply below_drew1 | refine below_set ?_ GE139.out | refine below_set ?_ GE140.out | refine below_set ?_ GE141.out | refine below_set ?_ GE148.out) | exact HB.out)) hb)
             clear BK139
             clear BK140
             clear BK141
             clear BK148
             clear HB
             have BK139 := n0_
             have BK140 := n1_
             have BK141 := n2_
             have BK148 := n3_
             have HB := n4_
             clear n0_ n1_ n2_ n3_ n4_
             (try clear hb)
             (try clear hb2)
             (try clear hk)
             (try clear hi)
             refine hK.out _ _ ⟨(blk_cell BK139.out 0).trans rfl, (blk_cell BK139.out 1).trans rfl, ((HB.out.cell (World.block_lt_of_cell? w _ hw142_0)).trans hw142_0), ((HB.out.cell (World.block_lt_of_cell? w _ hw142_1)).trans hw142_1), ((HB.out.cell (World.block_lt_of_cell? w _ hw145_0)).trans hw145_0), ((HB.out.cell (World.block_lt_of_cell? w _ hw145_1)).trans hw145_1)⟩ (fun hHeld => ?_)
             clear hK K
             refine norm_ (a' := ?_) ?_ ?_
             rotate_left
             ·show Act.put _ (some 25) _ = _
              simp only [Act.put, List.setIfInBounds_toArray, List.set_cons_zero, List.set_cons_succ, i64_w, i32_w]
              rfl
             exact norm_ (by first | (simp only [putAll, Act.put, List.setIfInBounds_toArray, List.set_cons_zero, List.set_cons_succ]; done) | (simp only [putAll, Act.put, List.setIfInBounds_toArray, List.set_cons_zero, List.set_cons_succ]; rfl)) (hJ5_16_17 (gb148) _ ⟨hHeld, (by (with_reducible repeat (first | refine blk_drewN ?_ _ | refine blk_drew ?_ | refine blk_alloc ?_ _)); exact BK139.out), (by (with_reducible repeat (first | refine blk_drewN ?_ _ | refine blk_drew ?_ | refine blk_alloc ?_ _)); exact BK140.out), (by (with_reducible repeat (first | refine blk_drewN ?_ _ | refine blk_drew ?_ | refine blk_alloc ?_ _)); exact BK141.out), (by (with_reducible repeat (first | refine blk_drewN ?_ _ | refine blk_drew ?_ | refine blk_alloc ?_ _)); exact BK148.out), GW148.out, GE148.out, NB139_148.out, NB148_139.out, NB140_148.out, NB148_140.out, NB141_148.out, NB148_141.out, (by repeat (first | (with_reducible first | exact HB.out | apply below_alloc | apply pw_below_drewN | apply below_drew1 | refine below_set ?_ GE139.out | refine below_set ?_ GE140.out | refine below_set ?_ GE141.out | refine below_set ?_ GE148.out) | exact HB.out))⟩)
            ·skip
             refine box_step ?hg (N := 8) ?hd (cs := #[.int .i64 0, .int .i64 0]) (t := 34) ?hr ?_; (case hd => rfl); (case hg => rfl); (case hr => first | (go_simp; done) | (go_simp; rfl))
             intro gb149 hg w19 hbox hb
             have n0_ := Aside0.mk (blk_below (g := gb139) (o := .cells #[.bool a0_0, .slice (some ad142) l0_1.length c0_1] 39 (0, 0)) (by (with_reducible repeat (first | refine blk_drewN ?_ _ | refine blk_drew ?_ | refine blk_alloc ?_ _)); exact BK139.out) hb)
             have n1_ := Aside0.mk (blk_below (g := gb140) (o := .cells #[.int .i64 0, .int .i64 0] 34 (0, 0)) (by (with_reducible repeat (first | refine blk_drewN ?_ _ | refine blk_drew ?_ | refine blk_alloc ?_ _)); exact BK140.out) hb)
             have n2_ := Aside0.mk (blk_below (g := gb141) (o := .cells #[.int .i64 0, .int .i64 0] 34 (0, 0)) (by (with_reducible repeat (first | refine blk_drewN ?_ _ | refine blk_drew ?_ | refine blk_alloc ?_ _)); exact BK141.out) hb)
             have n3_ := Aside0.mk (blk_below (g := gb148) (o := .cells #[.int .i64 0, .int .i64 0] 34 (0, 0)) (by (with_reducible repeat (first | refine blk_drewN ?_ _ | refine blk_drew ?_ | refine blk_alloc ?_ _)); exact BK148.out) hb)
             have n4_ := Aside0.mk (below_step (by repeat (first | (with_reducible first | exact HB.out | apply below_alloc | apply pw_below_drewN | apply below_drew1 | refine below_set ?_ GE139.out | refine below_set ?_ GE140.out | refine below_set ?_ GE141.out | refine below_set ?_ GE148.out) | exact HB.out)) hb)
             have n5_ := Aside0.mk (hbox)
             have n6_ := Aside0.mk ((by rw [hg]; exact (below_size (by repeat (first | (with_reducible first | exact HB.out | apply below_alloc | apply pw_below_drewN | apply below_drew1 | refine below_set ?_ GE139.out | refine below_set ?_ GE140.out | refine below_set ?_ GE141.out | refine below_set ?_ GE148.out) | exact HB.out))) : w.heap.size ≤ gb149))
             have n7_ := Aside0.mk ((by rw [hg]; exact (below_size (by repeat (first | (with_reducible first | exact HB.out | apply below_alloc | apply pw_below_drewN | apply below_drew1 | refine below_set ?_ GE139.out | refine below_set ?_ GE140.out | refine below_set ?_ GE141.out | refine below_set ?_ GE148.out) | exact HB.out))) : w.heap.size ≤ gb149))
             have n8_ := Aside0.mk ((by rw [hg]; exact Nat.ne_of_lt (blk_lt (g := gb139) (o := .cells #[.bool a0_0, .slice (some ad142) l0_1.length c0_1] 39 (0, 0)) (by (with_reducible repeat (first | refine blk_drewN ?_ _ | refine blk_drew ?_ | refine blk_alloc ?_ _)); exact BK139.out)) : gb139 ≠ gb149))
             have n9_ := Aside0.mk ((by rw [hg]; exact Nat.ne_of_gt (blk_lt (g := gb139) (o := .cells #[.bool a0_0, .slice (some ad142) l0_1.length c0_1] 39 (0, 0)) (by (with_reducible repeat (first | refine blk_drewN ?_ _ | refine blk_drew ?_ | refine blk_alloc ?_ _)); exact BK139.out)) : gb149 ≠ gb139))
             have n10_ := Aside0.mk ((by rw [hg]; exact Nat.ne_of_lt (blk_lt (g := gb140) (o := .cells #[.int .i64 0, .int .i64 0] 34 (0, 0)) (by (with_reducible repeat (first | refine blk_drewN ?_ _ | refine blk_drew ?_ | refine blk_alloc ?_ _)); exact BK140.out)) : gb140 ≠ gb149))
             have n11_ := Aside0.mk ((by rw [hg]; exact Nat.ne_of_gt (blk_lt (g := gb140) (o := .cells #[.int .i64 0, .int .i64 0] 34 (0, 0)) (by (with_reducible repeat (first | refine blk_drewN ?_ _ | refine blk_drew ?_ | refine blk_alloc ?_ _)); exact BK140.out)) : gb149 ≠ gb140))
             have n12_ := Aside0.mk ((by rw [hg]; exact Nat.ne_of_lt (blk_lt (g := gb141) (o := .cells #[.int .i64 0, .int .i64 0] 34 (0, 0)) (by (with_reducible repeat (first | refine blk_drewN ?_ _ | refine blk_drew ?_ | refine blk_alloc ?_ _)); exact BK141.out)) : gb141 ≠ gb149))
             have n13_ := Aside0.mk ((by rw [hg]; exact Nat.ne_of_gt (blk_lt (g := gb141) (o := .cells #[.int .i64 0, .int .i64 0] 34 (0, 0)) (by (with_reducible repeat (first | refine blk_drewN ?_ _ | refine blk_drew ?_ | refine blk_alloc ?_ _)); exact BK141.out)) : gb149 ≠ gb141))
             have n14_ := Aside0.mk ((by rw [hg]; exact Nat.ne_of_lt (blk_lt (g := gb148) (o := .cells #[.int .i64 0, .int .i64 0] 34 (0, 0)) (by (with_reducible repeat (first | refine blk_drewN ?_ _ | refine blk_drew ?_ | refine blk_alloc ?_ _)); exact BK148.out)) : gb148 ≠ gb149))
             have n15_ := Aside0.mk ((by rw [hg]; exact Nat.ne_of_gt (blk_lt (g := gb148) (o := .cells #[.int .i64 0, .int .i64 0] 34 (0, 0)) (by (with_reducible repeat (first | refine blk_drewN ?_ _ | refine blk_drew ?_ | refine blk_alloc ?_ _)); exact BK148.out)) : gb149 ≠ gb148))
             clear BK139
             clear BK140
             clear BK141
             clear BK148
             clear HB
             have BK139 := n0_
             have BK140 := n1_
             have BK141 := n2_
             have BK148 := n3_
             have HB := n4_
             have BK149 := n5_
             have GW149 := n6_
             have GE149 := n7_
             have NB139_149 := n8_
             have NB149_139 := n9_
             have NB140_149 := n10_
             have NB149_140 := n11_
             have NB141_149 := n12_
             have NB149_141 := n13_
             have NB148_149 := n14_
             have NB149_148 := n15_
             clear n0_ n1_ n2_ n3_ n4_ n5_ n6_ n7_ n8_ n9_ n10_ n11_ n12_ n13_ n14_ n15_
             clear hb hbox hg
             refine hK.out _ _ ⟨(blk_cell BK139.out 0).trans rfl, (blk_cell BK139.out 1).trans rfl, ((HB.out.cell (World.block_lt_of_cell? w _ hw142_0)).trans hw142_0), ((HB.out.cell (World.block_lt_of_cell? w _ hw142_1)).trans hw142_1), ((HB.out.cell (World.block_lt_of_cell? w _ hw145_0)).trans hw145_0), ((HB.out.cell (World.block_lt_of_cell? w _ hw145_1)).trans hw145_1)⟩ (fun hHeld => ?_)
             clear hK K
             refine norm_ (a' := ?_) ?_ ?_
             rotate_left
             ·show Act.put _ (some 8) _ = _
              simp only [Act.put, List.setIfInBounds_toArray, List.set_cons_zero, List.set_cons_succ, i64_w, i32_w]
              rfl
             exact norm_ (by first | (simp only [putAll, Act.put, List.setIfInBounds_toArray, List.set_cons_zero, List.set_cons_succ]; done) | (simp only [putAll, Act.put, List.setIfInBounds_toArray, List.set_cons_zero, List.set_cons_succ]; rfl)) (hJ5_17_18 (gb148, gb149) _ ⟨hHeld, (by (with_reducible repeat (first | refine blk_drewN ?_ _ | refine blk_drew ?_ | refine blk_alloc ?_ _)); exact BK139.out), (by (with_reducible repeat (first | refine blk_drewN ?_ _ | refine blk_drew ?_ | refine blk_alloc ?_ _)); exact BK140.out), (by (with_reducible repeat (first | refine blk_drewN ?_ _ | refine blk_drew ?_ | refine blk_alloc ?_ _)); exact BK141.out), (by (with_reducible repeat (first | refine blk_drewN ?_ _ | refine blk_drew ?_ | refine blk_alloc ?_ _)); exact BK148.out), (by (with_reducible repeat (first | refine blk_drewN ?_ _ | refine blk_drew ?_ | refine blk_alloc ?_ _)); exact BK149.out), GW148.out, GE148.out, NB139_148.out, NB148_139.out, NB140_148.out, NB148_140.out, NB141_148.out, NB148_141.out, NB149_148.out, NB148_149.out, GW149.out, GE149.out, NB139_149.out, NB149_139.out, NB140_149.out, NB149_140.out, NB141_149.out, NB149_141.out, (by repeat (first | (with_reducible first | exact HB.out | apply below_alloc | apply pw_below_drewN | apply below_drew1 | refine below_set ?_ GE139.out | refine below_set ?_ GE140.out | refine below_set ?_ GE141.out | refine below_set ?_ GE148.out | refine below_set ?_ GE149.out) | exact HB.out))⟩)
          ·skip
           rintro _ w18 ⟨hS_, h0_, h1_, h2_, h3_⟩
           have n0_ : Aside0 (w18.heap[gb139]? = some (.cells #[.bool a0_0, .slice (some ad142) l0_1.length c0_1] 39 (0, 0))) := ⟨h0_⟩
           have n1_ : Aside0 (w18.heap[gb140]? = some (.cells #[.int .i64 0, .int .i64 0] 34 (0, 0))) := ⟨h1_⟩
           have n2_ : Aside0 (w18.heap[gb141]? = some (.cells #[.int .i64 0, .int .i64 0] 34 (0, 0))) := ⟨h2_⟩
           have n3_ : Aside0 (Below w.heap.size w w18) := ⟨h3_⟩
           clear BK139
           clear BK140
           clear BK141
           clear HB
           clear h0_ h1_ h2_ h3_
           have BK139 := n0_
           have BK140 := n1_
           have BK141 := n2_
           have HB := n3_
           clear n0_ n1_ n2_ n3_
           have hHeld : w18.cell? ⟨gb139, 0, none⟩ = some (.bool a0_0) ∧ w18.cell? ⟨gb139, 1, none⟩ = some (.slice (some ad142) l0_1.length c0_1) ∧ w18.cell? (ad142.add ((a1).toNat * 2)) = some (.int .i64 ((rd_T34 l0_1 a1).f0)) ∧ w18.cell? ⟨(ad142.add ((a1).toNat * 2)).block, (ad142.add ((a1).toNat * 2)).off + 1, none⟩ = some (.int .i64 ((rd_T34 l0_1 a1).f1)) ∧ w18.cell? (ad142.add (((ji7)).toNat * 2)) = some (.int .i64 ((rd_T34 l0_1 (ji7)).f0)) ∧ w18.cell? ⟨(ad142.add (((ji7)).toNat * 2)).block, (ad142.add (((ji7)).toNat * 2)).off + 1, none⟩ = some (.int .i64 ((rd_T34 l0_1 (ji7)).f1)) := hS_
           refine norm_ (a' := ?_) ?_ ?_
           rotate_left
           ·simp only [putAll, Act.put, List.setIfInBounds_toArray, List.set_cons_zero, List.set_cons_succ]
            rfl
           refine two_ (i := 17) (j := 18) (Ni := some 7) (Nj := some 8) #[true, true, true, true, true, true, true, true, true, true, true, true, true, true, true, true, true, true, false, false, false] #[true, true, true, true, true, true, true, true, true, true, true, true, true, true, true, true, true, false, true, false, false] rfl rfl rfl rfl (two_of HT_.out (by kernel_rfl)) (by decide) (by decide) (fun K hK => ?_) (fun K hK => ?_)
           ·skip
            refine box_step ?hg (N := 7) ?hd (cs := #[.int .i64 0, .int .i64 0]) (t := 34) ?hr ?_; (case hd => rfl); (case hg => rfl); (case hr => first | (go_simp; done) | (go_simp; rfl))
            intro gb148 hg w19 hbox hb
            have n0_ := Aside0.mk (blk_below (g := gb139) (o := .cells #[.bool a0_0, .slice (some ad142) l0_1.length c0_1] 39 (0, 0)) (by (with_reducible repeat (first | refine blk_drewN ?_ _ | refine blk_drew ?_ | refine blk_alloc ?_ _)); exact BK139.out) hb)
            have n1_ := Aside0.mk (blk_below (g := gb140) (o := .cells #[.int .i64 0, .int .i64 0] 34 (0, 0)) (by (with_reducible repeat (first | refine blk_drewN ?_ _ | refine blk_drew ?_ | refine blk_alloc ?_ _)); exact BK140.out) hb)
            have n2_ := Aside0.mk (blk_below (g := gb141) (o := .cells #[.int .i64 0, .int .i64 0] 34 (0, 0)) (by (with_reducible repeat (first | refine blk_drewN ?_ _ | refine blk_drew ?_ | refine blk_alloc ?_ _)); exact BK141.out) hb)
            have n3_ := Aside0.mk (below_step (by repeat (first | (with_reducible first | exact HB.out | apply below_alloc | apply pw_below_drewN | apply below_drew1 | refine below_set ?_ GE139.out | refine below_set ?_ GE140.out | refine below_set ?_ GE141.out) | exact HB.out)) hb)
            have n4_ := Aside0.mk (hbox)
            have n5_ := Aside0.mk ((by rw [hg]; exact (below_size (by repeat (first | (with_reducible first | exact HB.out | apply below_alloc | apply pw_below_drewN | apply below_drew1 | refine below_set ?_ GE139.out | refine below_set ?_ GE140.out | refine below_set ?_ GE141.out) | exact HB.out))) : w.heap.size ≤ gb148))
            have n6_ := Aside0.mk ((by rw [hg]; exact (below_size (by repeat (first | (with_reducible first | exact HB.out | apply below_alloc | apply pw_below_drewN | apply below_drew1 | refine below_set ?_ GE139.out | refine below_set ?_ GE140.out | refine below_set ?_ GE141.out) | exact HB.out))) : w.heap.size ≤ gb148))
            have n7_ := Aside0.mk ((by rw [hg]; exact Nat.ne_of_lt (blk_lt (g := gb139) (o := .cells #[.bool a0_0, .slice (some ad142) l0_1.length c0_1] 39 (0, 0)) (by (with_reducible repeat (first | refine blk_drewN ?_ _ | refine blk_drew ?_ | refine blk_alloc ?_ _)); exact BK139.out)) : gb139 ≠ gb148))
            have n8_ := Aside0.mk ((by rw [hg]; exact Nat.ne_of_gt (blk_lt (g := gb139) (o := .cells #[.bool a0_0, .slice (some ad142) l0_1.length c0_1] 39 (0, 0)) (by (with_reducible repeat (first | refine blk_drewN ?_ _ | refine blk_drew ?_ | refine blk_alloc ?_ _)); exact BK139.out)) : gb148 ≠ gb139))
            have n9_ := Aside0.mk ((by rw [hg]; exact Nat.ne_of_lt (blk_lt (g := gb140) (o := .cells #[.int .i64 0, .int .i64 0] 34 (0, 0)) (by (with_reducible repeat (first | refine blk_drewN ?_ _ | refine blk_drew ?_ | refine blk_alloc ?_ _)); exact BK140.out)) : gb140 ≠ gb148))
            have n10_ := Aside0.mk ((by rw [hg]; exact Nat.ne_of_gt (blk_lt (g := gb140) (o := .cells #[.int .i64 0, .int .i64 0] 34 (0, 0)) (by (with_reducible repeat (first | refine blk_drewN ?_ _ | refine blk_drew ?_ | refine blk_alloc ?_ _)); exact BK140.out)) : gb148 ≠ gb140))
            have n11_ := Aside0.mk ((by rw [hg]; exact Nat.ne_of_lt (blk_lt (g := gb141) (o := .cells #[.int .i64 0, .int .i64 0] 34 (0, 0)) (by (with_reducible repeat (first | refine blk_drewN ?_ _ | refine blk_drew ?_ | refine blk_alloc ?_ _)); exact BK141.out)) : gb141 ≠ gb148))
            have n12_ := Aside0.mk ((by rw [hg]; exact Nat.ne_of_gt (blk_lt (g := gb141) (o := .cells #[.int .i64 0, .int .i64 0] 34 (0, 0)) (by (with_reducible repeat (first | refine blk_drewN ?_ _ | refine blk_drew ?_ | refine blk_alloc ?_ _)); exact BK141.out)) : gb148 ≠ gb141))
            clear BK139
            clear BK140
            clear BK141
            clear HB
            have BK139 := n0_
            have BK140 := n1_
            have BK141 := n2_
            have HB := n3_
            have BK148 := n4_
            have GW148 := n5_
            have GE148 := n6_
            have NB139_148 := n7_
            have NB148_139 := n8_
            have NB140_148 := n9_
            have NB148_140 := n10_
            have NB141_148 := n11_
            have NB148_141 := n12_
            clear n0_ n1_ n2_ n3_ n4_ n5_ n6_ n7_ n8_ n9_ n10_ n11_ n12_
            clear hb hbox hg
            refine hK.out _ _ ⟨(blk_cell BK139.out 0).trans rfl, (blk_cell BK139.out 1).trans rfl, ((HB.out.cell (World.block_lt_of_cell? w _ hw142_0)).trans hw142_0), ((HB.out.cell (World.block_lt_of_cell? w _ hw142_1)).trans hw142_1), ((HB.out.cell (World.block_lt_of_cell? w _ hw145_0)).trans hw145_0), ((HB.out.cell (World.block_lt_of_cell? w _ hw145_1)).trans hw145_1)⟩ (fun hHeld => ?_)
            clear hK K
            refine norm_ (a' := ?_) ?_ ?_
            rotate_left
            ·show Act.put _ (some 7) _ = _
             simp only [Act.put, List.setIfInBounds_toArray, List.set_cons_zero, List.set_cons_succ, i64_w, i32_w]
             rfl
            exact norm_ (by first | (simp only [putAll, Act.put, List.setIfInBounds_toArray, List.set_cons_zero, List.set_cons_succ]; done) | (simp only [putAll, Act.put, List.setIfInBounds_toArray, List.set_cons_zero, List.set_cons_succ]; rfl)) (hJ5_16_17 (gb148) _ ⟨hHeld, (by (with_reducible repeat (first | refine blk_drewN ?_ _ | refine blk_drew ?_ | refine blk_alloc ?_ _)); exact BK139.out), (by (with_reducible repeat (first | refine blk_drewN ?_ _ | refine blk_drew ?_ | refine blk_alloc ?_ _)); exact BK140.out), (by (with_reducible repeat (first | refine blk_drewN ?_ _ | refine blk_drew ?_ | refine blk_alloc ?_ _)); exact BK141.out), (by (with_reducible repeat (first | refine blk_drewN ?_ _ | refine blk_drew ?_ | refine blk_alloc ?_ _)); exact BK148.out), GW148.out, GE148.out, NB139_148.out, NB148_139.out, NB140_148.out, NB148_140.out, NB141_148.out, NB148_141.out, (by repeat (first | (with_reducible first | exact HB.out | apply below_alloc | apply pw_below_drewN | apply below_drew1 | refine below_set ?_ GE139.out | refine below_set ?_ GE140.out | refine below_set ?_ GE141.out | refine below_set ?_ GE148.out) | exact HB.out))⟩)
           ·skip
            refine box_step ?hg (N := 8) ?hd (cs := #[.int .i64 0, .int .i64 0]) (t := 34) ?hr ?_; (case hd => rfl); (case hg => rfl); (case hr => first | (go_simp; done) | (go_simp; rfl))
            intro gb149 hg w19 hbox hb
            have n0_ := Aside0.mk (blk_below (g := gb139) (o := .cells #[.bool a0_0, .slice (some ad142) l0_1.length c0_1] 39 (0, 0)) (by (with_reducible repeat (first | refine blk_drewN ?_ _ | refine blk_drew ?_ | refine blk_alloc ?_ _)); exact BK139.out) hb)
            have n1_ := Aside0.mk (blk_below (g := gb140) (o := .cells #[.int .i64 0, .int .i64 0] 34 (0, 0)) (by (with_reducible repeat (first | refine blk_drewN ?_ _ | refine blk_drew ?_ | refine blk_alloc ?_ _)); exact BK140.out) hb)
            have n2_ := Aside0.mk (blk_below (g := gb141) (o := .cells #[.int .i64 0, .int .i64 0] 34 (0, 0)) (by (with_reducible repeat (first | refine blk_drewN ?_ _ | refine blk_drew ?_ | refine blk_alloc ?_ _)); exact BK141.out) hb)
            have n3_ := Aside0.mk (below_step (by repeat (first | (with_reducible first | exact HB.out | apply below_alloc | apply pw_below_drewN | apply below_drew1 | refine below_set ?_ GE139.out | refine below_set ?_ GE140.out | refine below_set ?_ GE141.out) | exact HB.out)) hb)
            have n4_ := Aside0.mk (hbox)
            have n5_ := Aside0.mk ((by rw [hg]; exact (below_size (by repeat (first | (with_reducible first | exact HB.out | apply below_alloc | apply pw_below_drewN | apply below_drew1 | refine below_set ?_ GE139.out | refine below_set ?_ GE140.out | refine below_set ?_ GE141.out) | exact HB.out))) : w.heap.size ≤ gb149))
            have n6_ := Aside0.mk ((by rw [hg]; exact (below_size (by repeat (first | (with_reducible first | exact HB.out | apply below_alloc | apply pw_below_drewN | apply below_drew1 | refine below_set ?_ GE139.out | refine below_set ?_ GE140.out | refine below_set ?_ GE141.out) | exact HB.out))) : w.heap.size ≤ gb149))
            have n7_ := Aside0.mk ((by rw [hg]; exact Nat.ne_of_lt (blk_lt (g := gb139) (o := .cells #[.bool a0_0, .slice (some ad142) l0_1.length c0_1] 39 (0, 0)) (by (with_reducible repeat (first | refine blk_drewN ?_ _ | refine blk_drew ?_ | refine blk_alloc ?_ _)); exact BK139.out)) : gb139 ≠ gb149))
            have n8_ := Aside0.mk ((by rw [hg]; exact Nat.ne_of_gt (blk_lt (g := gb139) (o := .cells #[.bool a0_0, .slice (some ad142) l0_1.length c0_1] 39 (0, 0)) (by (with_reducible repeat (first | refine blk_drewN ?_ _ | refine blk_drew ?_ | refine blk_alloc ?_ _)); exact BK139.out)) : gb149 ≠ gb139))
            have n9_ := Aside0.mk ((by rw [hg]; exact Nat.ne_of_lt (blk_lt (g := gb140) (o := .cells #[.int .i64 0, .int .i64 0] 34 (0, 0)) (by (with_reducible repeat (first | refine blk_drewN ?_ _ | refine blk_drew ?_ | refine blk_alloc ?_ _)); exact BK140.out)) : gb140 ≠ gb149))
            have n10_ := Aside0.mk ((by rw [hg]; exact Nat.ne_of_gt (blk_lt (g := gb140) (o := .cells #[.int .i64 0, .int .i64 0] 34 (0, 0)) (by (with_reducible repeat (first | refine blk_drewN ?_ _ | refine blk_drew ?_ | refine blk_alloc ?_ _)); exact BK140.out)) : gb149 ≠ gb140))
            have n11_ := Aside0.mk ((by rw [hg]; exact Nat.ne_of_lt (blk_lt (g := gb141) (o := .cells #[.int .i64 0, .int .i64 0] 34 (0, 0)) (by (with_reducible repeat (first | refine blk_drewN ?_ _ | refine blk_drew ?_ | refine blk_alloc ?_ _)); exact BK141.out)) : gb141 ≠ gb149))
            have n12_ := Aside0.mk ((by rw [hg]; exact Nat.ne_of_gt (blk_lt (g := gb141) (o := .cells #[.int .i64 0, .int .i64 0] 34 (0, 0)) (by (with_reducible repeat (first | refine blk_drewN ?_ _ | refine blk_drew ?_ | refine blk_alloc ?_ _)); exact BK141.out)) : gb149 ≠ gb141))
            clear BK139
            clear BK140
            clear BK141
            clear HB
            have BK139 := n0_
            have BK140 := n1_
            have BK141 := n2_
            have HB := n3_
            have BK149 := n4_
            have GW149 := n5_
            have GE149 := n6_
            have NB139_149 := n7_
            have NB149_139 := n8_
            have NB140_149 := n9_
            have NB149_140 := n10_
            have NB141_149 := n11_
            have NB149_141 := n12_
            clear n0_ n1_ n2_ n3_ n4_ n5_ n6_ n7_ n8_ n9_ n10_ n11_ n12_
            clear hb hbox hg
            refine hK.out _ _ ⟨(blk_cell BK139.out 0).trans rfl, (blk_cell BK139.out 1).trans rfl, ((HB.out.cell (World.block_lt_of_cell? w _ hw142_0)).trans hw142_0), ((HB.out.cell (World.block_lt_of_cell? w _ hw142_1)).trans hw142_1), ((HB.out.cell (World.block_lt_of_cell? w _ hw145_0)).trans hw145_0), ((HB.out.cell (World.block_lt_of_cell? w _ hw145_1)).trans hw145_1)⟩ (fun hHeld => ?_)
            clear hK K
            refine norm_ (a' := ?_) ?_ ?_
            rotate_left
            ·show Act.put _ (some 8) _ = _
             simp only [Act.put, List.setIfInBounds_toArray, List.set_cons_zero, List.set_cons_succ, i64_w, i32_w]
             rfl
            exact norm_ (by first | (simp only [putAll, Act.put, List.setIfInBounds_toArray, List.set_cons_zero, List.set_cons_succ]; done) | (simp only [putAll, Act.put, List.setIfInBounds_toArray, List.set_cons_zero, List.set_cons_succ]; rfl)) (hJ5_16_18 (gb149) _ ⟨hHeld, (by (with_reducible repeat (first | refine blk_drewN ?_ _ | refine blk_drew ?_ | refine blk_alloc ?_ _)); exact BK139.out), (by (with_reducible repeat (first | refine blk_drewN ?_ _ | refine blk_drew ?_ | refine blk_alloc ?_ _)); exact BK140.out), (by (with_reducible repeat (first | refine blk_drewN ?_ _ | refine blk_drew ?_ | refine blk_alloc ?_ _)); exact BK141.out), (by (with_reducible repeat (first | refine blk_drewN ?_ _ | refine blk_drew ?_ | refine blk_alloc ?_ _)); exact BK149.out), GW149.out, GE149.out, NB139_149.out, NB149_139.out, NB140_149.out, NB149_140.out, NB141_149.out, NB149_141.out, (by repeat (first | (with_reducible first | exact HB.out | apply below_alloc | apply pw_below_drewN | apply below_drew1 | refine below_set ?_ GE139.out | refine below_set ?_ GE140.out | refine below_set ?_ GE141.out | refine below_set ?_ GE149.out) | exact HB.out))⟩)
         ·skip
          rintro ⟨gb148, gb149⟩ w19 ⟨hS_, h0_, h1_, h2_, h3_, h4_, h5_, h6_, h7_, h8_, h9_, h10_, h11_, h12_, h13_, h14_, h15_, h16_, h17_, h18_, h19_, h20_, h21_, h22_, h23_⟩
          have n0_ : Aside0 (w19.heap[gb139]? = some (.cells #[.bool a0_0, .slice (some ad142) l0_1.length c0_1] 39 (0, 0))) := ⟨h0_⟩
          have n1_ : Aside0 (w19.heap[gb140]? = some (.cells #[.int .i64 0, .int .i64 0] 34 (0, 0))) := ⟨h1_⟩
          have n2_ : Aside0 (w19.heap[gb141]? = some (.cells #[.int .i64 0, .int .i64 0] 34 (0, 0))) := ⟨h2_⟩
          have n3_ : Aside0 (w19.heap[gb148]? = some (.cells #[.int .i64 0, .int .i64 0] 34 (0, 0))) := ⟨h3_⟩
          have n4_ : Aside0 (w19.heap[gb149]? = some (.cells #[.int .i64 0, .int .i64 0] 34 (0, 0))) := ⟨h4_⟩
          have n5_ : Aside0 (w.heap.size ≤ gb148) := ⟨h5_⟩
          have n6_ : Aside0 (w.heap.size ≤ gb148) := ⟨h6_⟩
          have n7_ : Aside0 (gb139 ≠ gb148) := ⟨h7_⟩
          have n8_ : Aside0 (gb148 ≠ gb139) := ⟨h8_⟩
          have n9_ : Aside0 (gb140 ≠ gb148) := ⟨h9_⟩
          have n10_ : Aside0 (gb148 ≠ gb140) := ⟨h10_⟩
          have n11_ : Aside0 (gb141 ≠ gb148) := ⟨h11_⟩
          have n12_ : Aside0 (gb148 ≠ gb141) := ⟨h12_⟩
          have n13_ : Aside0 (gb149 ≠ gb148) := ⟨h13_⟩
          have n14_ : Aside0 (gb148 ≠ gb149) := ⟨h14_⟩
          have n15_ : Aside0 (w.heap.size ≤ gb149) := ⟨h15_⟩
          have n16_ : Aside0 (w.heap.size ≤ gb149) := ⟨h16_⟩
          have n17_ : Aside0 (gb139 ≠ gb149) := ⟨h17_⟩
          have n18_ : Aside0 (gb149 ≠ gb139) := ⟨h18_⟩
          have n19_ : Aside0 (gb140 ≠ gb149) := ⟨h19_⟩
          have n20_ : Aside0 (gb149 ≠ gb140) := ⟨h20_⟩
          have n21_ : Aside0 (gb141 ≠ gb149) := ⟨h21_⟩
          have n22_ : Aside0 (gb149 ≠ gb141) := ⟨h22_⟩
          have n23_ : Aside0 (Below w.heap.size w w19) := ⟨h23_⟩
          clear BK139
          clear BK140
          clear BK141
          clear HB
          clear h0_ h1_ h2_ h3_ h4_ h5_ h6_ h7_ h8_ h9_ h10_ h11_ h12_ h13_ h14_ h15_ h16_ h17_ h18_ h19_ h20_ h21_ h22_ h23_
          have BK139 := n0_
          have BK140 := n1_
          have BK141 := n2_
          have BK148 := n3_
          have BK149 := n4_
          have GW148 := n5_
          have GE148 := n6_
          have NB139_148 := n7_
          have NB148_139 := n8_
          have NB140_148 := n9_
          have NB148_140 := n10_
          have NB141_148 := n11_
          have NB148_141 := n12_
          have NB149_148 := n13_
          have NB148_149 := n14_
          have GW149 := n15_
          have GE149 := n16_
          have NB139_149 := n17_
          have NB149_139 := n18_
          have NB140_149 := n19_
          have NB149_140 := n20_
          have NB141_149 := n21_
          have NB149_141 := n22_
          have HB := n23_
          clear n0_ n1_ n2_ n3_ n4_ n5_ n6_ n7_ n8_ n9_ n10_ n11_ n12_ n13_ n14_ n15_ n16_ n17_ n18_ n19_ n20_ n21_ n22_ n23_
          have hHeld : w19.cell? ⟨gb139, 0, none⟩ = some (.bool a0_0) ∧ w19.cell? ⟨gb139, 1, none⟩ = some (.slice (some ad142) l0_1.length c0_1) ∧ w19.cell? (ad142.add ((a1).toNat * 2)) = some (.int .i64 ((rd_T34 l0_1 a1).f0)) ∧ w19.cell? ⟨(ad142.add ((a1).toNat * 2)).block, (ad142.add ((a1).toNat * 2)).off + 1, none⟩ = some (.int .i64 ((rd_T34 l0_1 a1).f1)) ∧ w19.cell? (ad142.add (((ji7)).toNat * 2)) = some (.int .i64 ((rd_T34 l0_1 (ji7)).f0)) ∧ w19.cell? ⟨(ad142.add (((ji7)).toNat * 2)).block, (ad142.add (((ji7)).toNat * 2)).off + 1, none⟩ = some (.int .i64 ((rd_T34 l0_1 (ji7)).f1)) := hS_
          refine norm_ (a' := ?_) ?_ ?_
          rotate_left
          ·simp only [putAll, Act.put, List.setIfInBounds_toArray, List.set_cons_zero, List.set_cons_succ]
           rfl
          refine one_ (i := 16) (N := some 25) #[true, true, true, true, true, true, true, true, true, true, true, true, true, true, true, true, true, true, true, false, false] rfl rfl (one_of HT_.out (by kernel_rfl)) (by decide) (fun K hK => ?_)
          refine goes_ Try.func71 (by kernel_rfl) rfl #[.agg #[.int .i64 ((rd_T34 l0_1 (ji7)).f0), .int .i64 ((rd_T34 l0_1 (ji7)).f1)]] (by rfl) rfl rfl (by (try simp only [List.map_toArray, List.map_cons, List.map_nil]); first | done | (simp only [hji7]; rfl) | rfl | (simp only [List.length_drop, List.length_take]; rfl)) ?_
          with_reducible refine (arc_place.calls ((rd_T34 l0_1 (ji7)).f0) ((rd_T34 l0_1 (ji7)).f1) t146 t147 _ A10.out).mono ?_
          rintro e w20 ⟨rfl, hb⟩
          refine ⟨_, rfl, ?_⟩
          have n0_ := Aside0.mk (blk_below (g := gb139) (o := .cells #[.bool a0_0, .slice (some ad142) l0_1.length c0_1] 39 (0, 0)) (by (with_reducible repeat (first | refine blk_drewN ?_ _ | refine blk_drew ?_ | refine blk_alloc ?_ _)); exact BK139.out) hb)
          have n1_ := Aside0.mk (blk_below (g := gb140) (o := .cells #[.int .i64 0, .int .i64 0] 34 (0, 0)) (by (with_reducible repeat (first | refine blk_drewN ?_ _ | refine blk_drew ?_ | refine blk_alloc ?_ _)); exact BK140.out) hb)
          have n2_ := Aside0.mk (blk_below (g := gb141) (o := .cells #[.int .i64 0, .int .i64 0] 34 (0, 0)) (by (with_reducible repeat (first | refine blk_drewN ?_ _ | refine blk_drew ?_ | refine blk_alloc ?_ _)); exact BK141.out) hb)
          have n3_ := Aside0.mk (blk_below (g := gb148) (o := .cells #[.int .i64 0, .int .i64 0] 34 (0, 0)) (by (with_reducible repeat (first | refine blk_drewN ?_ _ | refine blk_drew ?_ | refine blk_alloc ?_ _)); exact BK148.out) hb)
          have n4_ := Aside0.mk (blk_below (g := gb149) (o := .cells #[.int .i64 0, .int .i64 0] 34 (0, 0)) (by (with_reducible repeat (first | refine blk_drewN ?_ _ | refine blk_drew ?_ | refine blk_alloc ?_ _)); exact BK149.out) hb)
          have n5_ := Aside0.mk (below_step (by repeat (first | (with_reducible first | exact HB.out | apply below_alloc | apply pw_below_drewN | apply below_drew1 | refine below_set ?_ GE139.out | refine below_set ?_ GE140.out | refine below_set ?_ GE141.out | refine below_set ?_ GE148.out | refine below_set ?_ GE149.out) | exact HB.out)) hb)
          clear BK139
          clear BK140
          clear BK141
          clear BK148
          clear BK149
          clear HB
          have BK139 := n0_
          have BK140 := n1_
          have BK141 := n2_
          have BK148 := n3_
          have BK149 := n4_
          have HB := n5_
          clear n0_ n1_ n2_ n3_ n4_ n5_
          (try clear hb)
          (try clear hb2)
          (try clear hk)
          (try clear hi)
          refine hK.out _ _ ⟨(blk_cell BK139.out 0).trans rfl, (blk_cell BK139.out 1).trans rfl, ((HB.out.cell (World.block_lt_of_cell? w _ hw142_0)).trans hw142_0), ((HB.out.cell (World.block_lt_of_cell? w _ hw142_1)).trans hw142_1), ((HB.out.cell (World.block_lt_of_cell? w _ hw145_0)).trans hw145_0), ((HB.out.cell (World.block_lt_of_cell? w _ hw145_1)).trans hw145_1)⟩ (fun hHeld => ?_)
          clear hK K
          refine norm_ (a' := ?_) ?_ ?_
          rotate_left
          ·show Act.put _ (some 25) _ = _
           simp only [Act.put, List.setIfInBounds_toArray, List.set_cons_zero, List.set_cons_succ, i64_w, i32_w]
           rfl
          exact norm_ (by first | (simp only [putAll, Act.put, List.setIfInBounds_toArray, List.set_cons_zero, List.set_cons_succ]; done) | (simp only [putAll, Act.put, List.setIfInBounds_toArray, List.set_cons_zero, List.set_cons_succ]; rfl)) (hJ5_16_17_18 (gb148, gb149) _ ⟨hHeld, (by (with_reducible repeat (first | refine blk_drewN ?_ _ | refine blk_drew ?_ | refine blk_alloc ?_ _)); exact BK139.out), (by (with_reducible repeat (first | refine blk_drewN ?_ _ | refine blk_drew ?_ | refine blk_alloc ?_ _)); exact BK140.out), (by (with_reducible repeat (first | refine blk_drewN ?_ _ | refine blk_drew ?_ | refine blk_alloc ?_ _)); exact BK141.out), (by (with_reducible repeat (first | refine blk_drewN ?_ _ | refine blk_drew ?_ | refine blk_alloc ?_ _)); exact BK148.out), (by (with_reducible repeat (first | refine blk_drewN ?_ _ | refine blk_drew ?_ | refine blk_alloc ?_ _)); exact BK149.out), GW148.out, GE148.out, NB139_148.out, NB148_139.out, NB140_148.out, NB148_140.out, NB141_148.out, NB148_141.out, NB149_148.out, NB148_149.out, GW149.out, GE149.out, NB139_149.out, NB149_139.out, NB140_149.out, NB149_140.out, NB141_149.out, NB149_141.out, (by repeat (first | (with_reducible first | exact HB.out | apply below_alloc | apply pw_below_drewN | apply below_drew1 | refine below_set ?_ GE139.out | refine below_set ?_ GE140.out | refine below_set ?_ GE141.out | refine below_set ?_ GE148.out | refine below_set ?_ GE149.out) | exact HB.out))⟩)
        ·skip
         rintro gb149 w19 ⟨hS_, h0_, h1_, h2_, h3_, h4_, h5_, h6_, h7_, h8_, h9_, h10_, h11_, h12_⟩
         have n0_ : Aside0 (w19.heap[gb139]? = some (.cells #[.bool a0_0, .slice (some ad142) l0_1.length c0_1] 39 (0, 0))) := ⟨h0_⟩
         have n1_ : Aside0 (w19.heap[gb140]? = some (.cells #[.int .i64 0, .int .i64 0] 34 (0, 0))) := ⟨h1_⟩
         have n2_ : Aside0 (w19.heap[gb141]? = some (.cells #[.int .i64 0, .int .i64 0] 34 (0, 0))) := ⟨h2_⟩
         have n3_ : Aside0 (w19.heap[gb149]? = some (.cells #[.int .i64 0, .int .i64 0] 34 (0, 0))) := ⟨h3_⟩
         have n4_ : Aside0 (w.heap.size ≤ gb149) := ⟨h4_⟩
         have n5_ : Aside0 (w.heap.size ≤ gb149) := ⟨h5_⟩
         have n6_ : Aside0 (gb139 ≠ gb149) := ⟨h6_⟩
         have n7_ : Aside0 (gb149 ≠ gb139) := ⟨h7_⟩
         have n8_ : Aside0 (gb140 ≠ gb149) := ⟨h8_⟩
         have n9_ : Aside0 (gb149 ≠ gb140) := ⟨h9_⟩
         have n10_ : Aside0 (gb141 ≠ gb149) := ⟨h10_⟩
         have n11_ : Aside0 (gb149 ≠ gb141) := ⟨h11_⟩
         have n12_ : Aside0 (Below w.heap.size w w19) := ⟨h12_⟩
         clear BK139
         clear BK140
         clear BK141
         clear HB
         clear h0_ h1_ h2_ h3_ h4_ h5_ h6_ h7_ h8_ h9_ h10_ h11_ h12_
         have BK139 := n0_
         have BK140 := n1_
         have BK141 := n2_
         have BK149 := n3_
         have GW149 := n4_
         have GE149 := n5_
         have NB139_149 := n6_
         have NB149_139 := n7_
         have NB140_149 := n8_
         have NB149_140 := n9_
         have NB141_149 := n10_
         have NB149_141 := n11_
         have HB := n12_
         clear n0_ n1_ n2_ n3_ n4_ n5_ n6_ n7_ n8_ n9_ n10_ n11_ n12_
         have hHeld : w19.cell? ⟨gb139, 0, none⟩ = some (.bool a0_0) ∧ w19.cell? ⟨gb139, 1, none⟩ = some (.slice (some ad142) l0_1.length c0_1) ∧ w19.cell? (ad142.add ((a1).toNat * 2)) = some (.int .i64 ((rd_T34 l0_1 a1).f0)) ∧ w19.cell? ⟨(ad142.add ((a1).toNat * 2)).block, (ad142.add ((a1).toNat * 2)).off + 1, none⟩ = some (.int .i64 ((rd_T34 l0_1 a1).f1)) ∧ w19.cell? (ad142.add (((ji7)).toNat * 2)) = some (.int .i64 ((rd_T34 l0_1 (ji7)).f0)) ∧ w19.cell? ⟨(ad142.add (((ji7)).toNat * 2)).block, (ad142.add (((ji7)).toNat * 2)).off + 1, none⟩ = some (.int .i64 ((rd_T34 l0_1 (ji7)).f1)) := hS_
         refine norm_ (a' := ?_) ?_ ?_
         rotate_left
         ·simp only [putAll, Act.put, List.setIfInBounds_toArray, List.set_cons_zero, List.set_cons_succ]
          rfl
         refine one_ (i := 17) (N := some 7) #[true, true, true, true, true, true, true, true, true, true, true, true, true, true, true, true, true, true, true, false, false] rfl rfl (one_of HT_.out (by kernel_rfl)) (by decide) (fun K hK => ?_)
         refine box_step ?hg (N := 7) ?hd (cs := #[.int .i64 0, .int .i64 0]) (t := 34) ?hr ?_; (case hd => rfl); (case hg => rfl); (case hr => first | (go_simp; done) | (go_simp; rfl))
         intro gb148 hg w20 hbox hb
         have n0_ := Aside0.mk (blk_below (g := gb139) (o := .cells #[.bool a0_0, .slice (some ad142) l0_1.length c0_1] 39 (0, 0)) (by (with_reducible repeat (first | refine blk_drewN ?_ _ | refine blk_drew ?_ | refine blk_alloc ?_ _)); exact BK139.out) hb)
         have n1_ := Aside0.mk (blk_below (g := gb140) (o := .cells #[.int .i64 0, .int .i64 0] 34 (0, 0)) (by (with_reducible repeat (first | refine blk_drewN ?_ _ | refine blk_drew ?_ | refine blk_alloc ?_ _)); exact BK140.out) hb)
         have n2_ := Aside0.mk (blk_below (g := gb141) (o := .cells #[.int .i64 0, .int .i64 0] 34 (0, 0)) (by (with_reducible repeat (first | refine blk_drewN ?_ _ | refine blk_drew ?_ | refine blk_alloc ?_ _)); exact BK141.out) hb)
         have n3_ := Aside0.mk (blk_below (g := gb149) (o := .cells #[.int .i64 0, .int .i64 0] 34 (0, 0)) (by (with_reducible repeat (first | refine blk_drewN ?_ _ | refine blk_drew ?_ | refine blk_alloc ?_ _)); exact BK149.out) hb)
         have n4_ := Aside0.mk (below_step (by repeat (first | (with_reducible first | exact HB.out | apply below_alloc | apply pw_below_drewN | apply below_drew1 | refine below_set ?_ GE139.out | refine below_set ?_ GE140.out | refine below_set ?_ GE141.out | refine below_set ?_ GE149.out) | exact HB.out)) hb)
         have n5_ := Aside0.mk (hbox)
         have n6_ := Aside0.mk ((by rw [hg]; exact (below_size (by repeat (first | (with_reducible first | exact HB.out | apply below_alloc | apply pw_below_drewN | apply below_drew1 | refine below_set ?_ GE139.out | refine below_set ?_ GE140.out | refine below_set ?_ GE141.out | refine below_set ?_ GE149.out) | exact HB.out))) : w.heap.size ≤ gb148))
         have n7_ := Aside0.mk ((by rw [hg]; exact (below_size (by repeat (first | (with_reducible first | exact HB.out | apply below_alloc | apply pw_below_drewN | apply below_drew1 | refine below_set ?_ GE139.out | refine below_set ?_ GE140.out | refine below_set ?_ GE141.out | refine below_set ?_ GE149.out) | exact HB.out))) : w.heap.size ≤ gb148))
         have n8_ := Aside0.mk ((by rw [hg]; exact Nat.ne_of_lt (blk_lt (g := gb139) (o := .cells #[.bool a0_0, .slice (some ad142) l0_1.length c0_1] 39 (0, 0)) (by (with_reducible repeat (first | refine blk_drewN ?_ _ | refine blk_drew ?_ | refine blk_alloc ?_ _)); exact BK139.out)) : gb139 ≠ gb148))
         have n9_ := Aside0.mk ((by rw [hg]; exact Nat.ne_of_gt (blk_lt (g := gb139) (o := .cells #[.bool a0_0, .slice (some ad142) l0_1.length c0_1] 39 (0, 0)) (by (with_reducible repeat (first | refine blk_drewN ?_ _ | refine blk_drew ?_ | refine blk_alloc ?_ _)); exact BK139.out)) : gb148 ≠ gb139))
         have n10_ := Aside0.mk ((by rw [hg]; exact Nat.ne_of_lt (blk_lt (g := gb140) (o := .cells #[.int .i64 0, .int .i64 0] 34 (0, 0)) (by (with_reducible repeat (first | refine blk_drewN ?_ _ | refine blk_drew ?_ | refine blk_alloc ?_ _)); exact BK140.out)) : gb140 ≠ gb148))
         have n11_ := Aside0.mk ((by rw [hg]; exact Nat.ne_of_gt (blk_lt (g := gb140) (o := .cells #[.int .i64 0, .int .i64 0] 34 (0, 0)) (by (with_reducible repeat (first | refine blk_drewN ?_ _ | refine blk_drew ?_ | refine blk_alloc ?_ _)); exact BK140.out)) : gb148 ≠ gb140))
         have n12_ := Aside0.mk ((by rw [hg]; exact Nat.ne_of_lt (blk_lt (g := gb141) (o := .cells #[.int .i64 0, .int .i64 0] 34 (0, 0)) (by (with_reducible repeat (first | refine blk_drewN ?_ _ | refine blk_drew ?_ | refine blk_alloc ?_ _)); exact BK141.out)) : gb141 ≠ gb148))
         have n13_ := Aside0.mk ((by rw [hg]; exact Nat.ne_of_gt (blk_lt (g := gb141) (o := .cells #[.int .i64 0, .int .i64 0] 34 (0, 0)) (by (with_reducible repeat (first | refine blk_drewN ?_ _ | refine blk_drew ?_ | refine blk_alloc ?_ _)); exact BK141.out)) : gb148 ≠ gb141))
         have n14_ := Aside0.mk ((by rw [hg]; exact Nat.ne_of_lt (blk_lt (g := gb149) (o := .cells #[.int .i64 0, .int .i64 0] 34 (0, 0)) (by (with_reducible repeat (first | refine blk_drewN ?_ _ | refine blk_drew ?_ | refine blk_alloc ?_ _)); exact BK149.out)) : gb149 ≠ gb148))
         have n15_ := Aside0.mk ((by rw [hg]; exact Nat.ne_of_gt (blk_lt (g := gb149) (o := .cells #[.int .i64 0, .int .i64 0] 34 (0, 0)) (by (with_reducible repeat (first | refine blk_drewN ?_ _ | refine blk_drew ?_ | refine blk_alloc ?_ _)); exact BK149.out)) : gb148 ≠ gb149))
         clear BK139
         clear BK140
         clear BK141
         clear BK149
         clear HB
         have BK139 := n0_
         have BK140 := n1_
         have BK141 := n2_
         have BK149 := n3_
         have HB := n4_
         have BK148 := n5_
         have GW148 := n6_
         have GE148 := n7_
         have NB139_148 := n8_
         have NB148_139 := n9_
         have NB140_148 := n10_
         have NB148_140 := n11_
         have NB141_148 := n12_
         have NB148_141 := n13_
         have NB149_148 := n14_
         have NB148_149 := n15_
         clear n0_ n1_ n2_ n3_ n4_ n5_ n6_ n7_ n8_ n9_ n10_ n11_ n12_ n13_ n14_ n15_
         clear hb hbox hg
         refine hK.out _ _ ⟨(blk_cell BK139.out 0).trans rfl, (blk_cell BK139.out 1).trans rfl, ((HB.out.cell (World.block_lt_of_cell? w _ hw142_0)).trans hw142_0), ((HB.out.cell (World.block_lt_of_cell? w _ hw142_1)).trans hw142_1), ((HB.out.cell (World.block_lt_of_cell? w _ hw145_0)).trans hw145_0), ((HB.out.cell (World.block_lt_of_cell? w _ hw145_1)).trans hw145_1)⟩ (fun hHeld => ?_)
         clear hK K
         refine norm_ (a' := ?_) ?_ ?_
         rotate_left
         ·show Act.put _ (some 7) _ = _
          simp only [Act.put, List.setIfInBounds_toArray, List.set_cons_zero, List.set_cons_succ, i64_w, i32_w]
          rfl
         exact norm_ (by first | (simp only [putAll, Act.put, List.setIfInBounds_toArray, List.set_cons_zero, List.set_cons_succ]; done) | (simp only [putAll, Act.put, List.setIfInBounds_toArray, List.set_cons_zero, List.set_cons_succ]; rfl)) (hJ5_16_17_18 (gb148, gb149) _ ⟨hHeld, (by (with_reducible repeat (first | refine blk_drewN ?_ _ | refine blk_drew ?_ | refine blk_alloc ?_ _)); exact BK139.out), (by (with_reducible repeat (first | refine blk_drewN ?_ _ | refine blk_drew ?_ | refine blk_alloc ?_ _)); exact BK140.out), (by (with_reducible repeat (first | refine blk_drewN ?_ _ | refine blk_drew ?_ | refine blk_alloc ?_ _)); exact BK141.out), (by (with_reducible repeat (first | refine blk_drewN ?_ _ | refine blk_drew ?_ | refine blk_alloc ?_ _)); exact BK148.out), (by (with_reducible repeat (first | refine blk_drewN ?_ _ | refine blk_drew ?_ | refine blk_alloc ?_ _)); exact BK149.out), GW148.out, GE148.out, NB139_148.out, NB148_139.out, NB140_148.out, NB148_140.out, NB141_148.out, NB148_141.out, NB149_148.out, NB148_149.out, GW149.out, GE149.out, NB139_149.out, NB149_139.out, NB140_149.out, NB149_140.out, NB141_149.out, NB149_141.out, (by repeat (first | (with_reducible first | exact HB.out | apply below_alloc | apply pw_below_drewN | apply below_drew1 | refine below_set ?_ GE139.out | refine below_set ?_ GE140.out | refine below_set ?_ GE141.out | refine below_set ?_ GE149.out | refine below_set ?_ GE148.out) | exact HB.out))⟩)
       ·skip
        rintro gb148 w19 ⟨hS_, h0_, h1_, h2_, h3_, h4_, h5_, h6_, h7_, h8_, h9_, h10_, h11_, h12_⟩
        have n0_ : Aside0 (w19.heap[gb139]? = some (.cells #[.bool a0_0, .slice (some ad142) l0_1.length c0_1] 39 (0, 0))) := ⟨h0_⟩
        have n1_ : Aside0 (w19.heap[gb140]? = some (.cells #[.int .i64 0, .int .i64 0] 34 (0, 0))) := ⟨h1_⟩
        have n2_ : Aside0 (w19.heap[gb141]? = some (.cells #[.int .i64 0, .int .i64 0] 34 (0, 0))) := ⟨h2_⟩
        have n3_ : Aside0 (w19.heap[gb148]? = some (.cells #[.int .i64 0, .int .i64 0] 34 (0, 0))) := ⟨h3_⟩
        have n4_ : Aside0 (w.heap.size ≤ gb148) := ⟨h4_⟩
        have n5_ : Aside0 (w.heap.size ≤ gb148) := ⟨h5_⟩
        have n6_ : Aside0 (gb139 ≠ gb148) := ⟨h6_⟩
        have n7_ : Aside0 (gb148 ≠ gb139) := ⟨h7_⟩
        have n8_ : Aside0 (gb140 ≠ gb148) := ⟨h8_⟩
        have n9_ : Aside0 (gb148 ≠ gb140) := ⟨h9_⟩
        have n10_ : Aside0 (gb141 ≠ gb148) := ⟨h10_⟩
        have n11_ : Aside0 (gb148 ≠ gb141) := ⟨h11_⟩
        have n12_ : Aside0 (Below w.heap.size w w19) := ⟨h12_⟩
        clear BK139
        clear BK140
        clear BK141
        clear HB
        clear h0_ h1_ h2_ h3_ h4_ h5_ h6_ h7_ h8_ h9_ h10_ h11_ h12_
        have BK139 := n0_
        have BK140 := n1_
        have BK141 := n2_
        have BK148 := n3_
        have GW148 := n4_
        have GE148 := n5_
        have NB139_148 := n6_
        have NB148_139 := n7_
        have NB140_148 := n8_
        have NB148_140 := n9_
        have NB141_148 := n10_
        have NB148_141 := n11_
        have HB := n12_
        clear n0_ n1_ n2_ n3_ n4_ n5_ n6_ n7_ n8_ n9_ n10_ n11_ n12_
        have hHeld : w19.cell? ⟨gb139, 0, none⟩ = some (.bool a0_0) ∧ w19.cell? ⟨gb139, 1, none⟩ = some (.slice (some ad142) l0_1.length c0_1) ∧ w19.cell? (ad142.add ((a1).toNat * 2)) = some (.int .i64 ((rd_T34 l0_1 a1).f0)) ∧ w19.cell? ⟨(ad142.add ((a1).toNat * 2)).block, (ad142.add ((a1).toNat * 2)).off + 1, none⟩ = some (.int .i64 ((rd_T34 l0_1 a1).f1)) ∧ w19.cell? (ad142.add (((ji7)).toNat * 2)) = some (.int .i64 ((rd_T34 l0_1 (ji7)).f0)) ∧ w19.cell? ⟨(ad142.add (((ji7)).toNat * 2)).block, (ad142.add (((ji7)).toNat * 2)).off + 1, none⟩ = some (.int .i64 ((rd_T34 l0_1 (ji7)).f1)) := hS_
        refine norm_ (a' := ?_) ?_ ?_
        rotate_left
        ·simp only [putAll, Act.put, List.setIfInBounds_toArray, List.set_cons_zero, List.set_cons_succ]
         rfl
        refine one_ (i := 18) (N := some 8) #[true, true, true, true, true, true, true, true, true, true, true, true, true, true, true, true, true, true, true, false, false] rfl rfl (one_of HT_.out (by kernel_rfl)) (by decide) (fun K hK => ?_)
        refine box_step ?hg (N := 8) ?hd (cs := #[.int .i64 0, .int .i64 0]) (t := 34) ?hr ?_; (case hd => rfl); (case hg => rfl); (case hr => first | (go_simp; done) | (go_simp; rfl))
        intro gb149 hg w20 hbox hb
        have n0_ := Aside0.mk (blk_below (g := gb139) (o := .cells #[.bool a0_0, .slice (some ad142) l0_1.length c0_1] 39 (0, 0)) (by (with_reducible repeat (first | refine blk_drewN ?_ _ | refine blk_drew ?_ | refine blk_alloc ?_ _)); exact BK139.out) hb)
        have n1_ := Aside0.mk (blk_below (g := gb140) (o := .cells #[.int .i64 0, .int .i64 0] 34 (0, 0)) (by (with_reducible repeat (first | refine blk_drewN ?_ _ | refine blk_drew ?_ | refine blk_alloc ?_ _)); exact BK140.out) hb)
        have n2_ := Aside0.mk (blk_below (g := gb141) (o := .cells #[.int .i64 0, .int .i64 0] 34 (0, 0)) (by (with_reducible repeat (first | refine blk_drewN ?_ _ | refine blk_drew ?_ | refine blk_alloc ?_ _)); exact BK141.out) hb)
        have n3_ := Aside0.mk (blk_below (g := gb148) (o := .cells #[.int .i64 0, .int .i64 0] 34 (0, 0)) (by (with_reducible repeat (first | refine blk_drewN ?_ _ | refine blk_drew ?_ | refine blk_alloc ?_ _)); exact BK148.out) hb)
        have n4_ := Aside0.mk (below_step (by repeat (first | (with_reducible first | exact HB.out | apply below_alloc | apply pw_below_drewN | apply below_drew1 | refine below_set ?_ GE139.out | refine below_set ?_ GE140.out | refine below_set ?_ GE141.out | refine below_set ?_ GE148.out) | exact HB.out)) hb)
        have n5_ := Aside0.mk (hbox)
        have n6_ := Aside0.mk ((by rw [hg]; exact (below_size (by repeat (first | (with_reducible first | exact HB.out | apply below_alloc | apply pw_below_drewN | apply below_drew1 | refine below_set ?_ GE139.out | refine below_set ?_ GE140.out | refine below_set ?_ GE141.out | refine below_set ?_ GE148.out) | exact HB.out))) : w.heap.size ≤ gb149))
        have n7_ := Aside0.mk ((by rw [hg]; exact (below_size (by repeat (first | (with_reducible first | exact HB.out | apply below_alloc | apply pw_below_drewN | apply below_drew1 | refine below_set ?_ GE139.out | refine below_set ?_ GE140.out | refine below_set ?_ GE141.out | refine below_set ?_ GE148.out) | exact HB.out))) : w.heap.size ≤ gb149))
        have n8_ := Aside0.mk ((by rw [hg]; exact Nat.ne_of_lt (blk_lt (g := gb139) (o := .cells #[.bool a0_0, .slice (some ad142) l0_1.length c0_1] 39 (0, 0)) (by (with_reducible repeat (first | refine blk_drewN ?_ _ | refine blk_drew ?_ | refine blk_alloc ?_ _)); exact BK139.out)) : gb139 ≠ gb149))
        have n9_ := Aside0.mk ((by rw [hg]; exact Nat.ne_of_gt (blk_lt (g := gb139) (o := .cells #[.bool a0_0, .slice (some ad142) l0_1.length c0_1] 39 (0, 0)) (by (with_reducible repeat (first | refine blk_drewN ?_ _ | refine blk_drew ?_ | refine blk_alloc ?_ _)); exact BK139.out)) : gb149 ≠ gb139))
        have n10_ := Aside0.mk ((by rw [hg]; exact Nat.ne_of_lt (blk_lt (g := gb140) (o := .cells #[.int .i64 0, .int .i64 0] 34 (0, 0)) (by (with_reducible repeat (first | refine blk_drewN ?_ _ | refine blk_drew ?_ | refine blk_alloc ?_ _)); exact BK140.out)) : gb140 ≠ gb149))
        have n11_ := Aside0.mk ((by rw [hg]; exact Nat.ne_of_gt (blk_lt (g := gb140) (o := .cells #[.int .i64 0, .int .i64 0] 34 (0, 0)) (by (with_reducible repeat (first | refine blk_drewN ?_ _ | refine blk_drew ?_ | refine blk_alloc ?_ _)); exact BK140.out)) : gb149 ≠ gb140))
        have n12_ := Aside0.mk ((by rw [hg]; exact Nat.ne_of_lt (blk_lt (g := gb141) (o := .cells #[.int .i64 0, .int .i64 0] 34 (0, 0)) (by (with_reducible repeat (first | refine blk_drewN ?_ _ | refine blk_drew ?_ | refine blk_alloc ?_ _)); exact BK141.out)) : gb141 ≠ gb149))
        have n13_ := Aside0.mk ((by rw [hg]; exact Nat.ne_of_gt (blk_lt (g := gb141) (o := .cells #[.int .i64 0, .int .i64 0] 34 (0, 0)) (by (with_reducible repeat (first | refine blk_drewN ?_ _ | refine blk_drew ?_ | refine blk_alloc ?_ _)); exact BK141.out)) : gb149 ≠ gb141))
        have n14_ := Aside0.mk ((by rw [hg]; exact Nat.ne_of_lt (blk_lt (g := gb148) (o := .cells #[.int .i64 0, .int .i64 0] 34 (0, 0)) (by (with_reducible repeat (first | refine blk_drewN ?_ _ | refine blk_drew ?_ | refine blk_alloc ?_ _)); exact BK148.out)) : gb148 ≠ gb149))
        have n15_ := Aside0.mk ((by rw [hg]; exact Nat.ne_of_gt (blk_lt (g := gb148) (o := .cells #[.int .i64 0, .int .i64 0] 34 (0, 0)) (by (with_reducible repeat (first | refine blk_drewN ?_ _ | refine blk_drew ?_ | refine blk_alloc ?_ _)); exact BK148.out)) : gb149 ≠ gb148))
        clear BK139
        clear BK140
        clear BK141
        clear BK148
        clear HB
        have BK139 := n0_
        have BK140 := n1_
        have BK141 := n2_
        have BK148 := n3_
        have HB := n4_
        have BK149 := n5_
        have GW149 := n6_
        have GE149 := n7_
        have NB139_149 := n8_
        have NB149_139 := n9_
        have NB140_149 := n10_
        have NB149_140 := n11_
        have NB141_149 := n12_
        have NB149_141 := n13_
        have NB148_149 := n14_
        have NB149_148 := n15_
        clear n0_ n1_ n2_ n3_ n4_ n5_ n6_ n7_ n8_ n9_ n10_ n11_ n12_ n13_ n14_ n15_
        clear hb hbox hg
        refine hK.out _ _ ⟨(blk_cell BK139.out 0).trans rfl, (blk_cell BK139.out 1).trans rfl, ((HB.out.cell (World.block_lt_of_cell? w _ hw142_0)).trans hw142_0), ((HB.out.cell (World.block_lt_of_cell? w _ hw142_1)).trans hw142_1), ((HB.out.cell (World.block_lt_of_cell? w _ hw145_0)).trans hw145_0), ((HB.out.cell (World.block_lt_of_cell? w _ hw145_1)).trans hw145_1)⟩ (fun hHeld => ?_)
        clear hK K
        refine norm_ (a' := ?_) ?_ ?_
        rotate_left
        ·show Act.put _ (some 8) _ = _
         simp only [Act.put, List.setIfInBounds_toArray, List.set_cons_zero, List.set_cons_succ, i64_w, i32_w]
         rfl
        exact norm_ (by first | (simp only [putAll, Act.put, List.setIfInBounds_toArray, List.set_cons_zero, List.set_cons_succ]; done) | (simp only [putAll, Act.put, List.setIfInBounds_toArray, List.set_cons_zero, List.set_cons_succ]; rfl)) (hJ5_16_17_18 (gb148, gb149) _ ⟨hHeld, (by (with_reducible repeat (first | refine blk_drewN ?_ _ | refine blk_drew ?_ | refine blk_alloc ?_ _)); exact BK139.out), (by (with_reducible repeat (first | refine blk_drewN ?_ _ | refine blk_drew ?_ | refine blk_alloc ?_ _)); exact BK140.out), (by (with_reducible repeat (first | refine blk_drewN ?_ _ | refine blk_drew ?_ | refine blk_alloc ?_ _)); exact BK141.out), (by (with_reducible repeat (first | refine blk_drewN ?_ _ | refine blk_drew ?_ | refine blk_alloc ?_ _)); exact BK148.out), (by (with_reducible repeat (first | refine blk_drewN ?_ _ | refine blk_drew ?_ | refine blk_alloc ?_ _)); exact BK149.out), GW148.out, GE148.out, NB139_148.out, NB148_139.out, NB140_148.out, NB148_140.out, NB141_148.out, NB148_141.out, NB149_148.out, NB148_149.out, GW149.out, GE149.out, NB139_149.out, NB149_139.out, NB140_149.out, NB149_140.out, NB141_149.out, NB149_141.out, (by repeat (first | (with_reducible first | exact HB.out | apply below_alloc | apply pw_below_drewN | apply below_drew1 | refine below_set ?_ GE139.out | refine below_set ?_ GE140.out | refine below_set ?_ GE141.out | refine below_set ?_ GE148.out | refine below_set ?_ GE149.out) | exact HB.out))⟩)
      rintro ⟨gb148, gb149⟩ w20 ⟨hS_, h0_, h1_, h2_, h3_, h4_, h5_, h6_, h7_, h8_, h9_, h10_, h11_, h12_, h13_, h14_, h15_, h16_, h17_, h18_, h19_, h20_, h21_, h22_, h23_⟩
      have n0_ : Aside0 (w20.heap[gb139]? = some (.cells #[.bool a0_0, .slice (some ad142) l0_1.length c0_1] 39 (0, 0))) := ⟨h0_⟩
      have n1_ : Aside0 (w20.heap[gb140]? = some (.cells #[.int .i64 0, .int .i64 0] 34 (0, 0))) := ⟨h1_⟩
      have n2_ : Aside0 (w20.heap[gb141]? = some (.cells #[.int .i64 0, .int .i64 0] 34 (0, 0))) := ⟨h2_⟩
      have n3_ : Aside0 (w20.heap[gb148]? = some (.cells #[.int .i64 0, .int .i64 0] 34 (0, 0))) := ⟨h3_⟩
      have n4_ : Aside0 (w20.heap[gb149]? = some (.cells #[.int .i64 0, .int .i64 0] 34 (0, 0))) := ⟨h4_⟩
      have n5_ : Aside0 (w.heap.size ≤ gb148) := ⟨h5_⟩
      have n6_ : Aside0 (w.heap.size ≤ gb148) := ⟨h6_⟩
      have n7_ : Aside0 (gb139 ≠ gb148) := ⟨h7_⟩
      have n8_ : Aside0 (gb148 ≠ gb139) := ⟨h8_⟩
      have n9_ : Aside0 (gb140 ≠ gb148) := ⟨h9_⟩
      have n10_ : Aside0 (gb148 ≠ gb140) := ⟨h10_⟩
      have n11_ : Aside0 (gb141 ≠ gb148) := ⟨h11_⟩
      have n12_ : Aside0 (gb148 ≠ gb141) := ⟨h12_⟩
      have n13_ : Aside0 (gb149 ≠ gb148) := ⟨h13_⟩
      have n14_ : Aside0 (gb148 ≠ gb149) := ⟨h14_⟩
      have n15_ : Aside0 (w.heap.size ≤ gb149) := ⟨h15_⟩
      have n16_ : Aside0 (w.heap.size ≤ gb149) := ⟨h16_⟩
      have n17_ : Aside0 (gb139 ≠ gb149) := ⟨h17_⟩
      have n18_ : Aside0 (gb149 ≠ gb139) := ⟨h18_⟩
      have n19_ : Aside0 (gb140 ≠ gb149) := ⟨h19_⟩
      have n20_ : Aside0 (gb149 ≠ gb140) := ⟨h20_⟩
      have n21_ : Aside0 (gb141 ≠ gb149) := ⟨h21_⟩
      have n22_ : Aside0 (gb149 ≠ gb141) := ⟨h22_⟩
      have n23_ : Aside0 (Below w.heap.size w w20) := ⟨h23_⟩
      clear BK139
      clear BK140
      clear BK141
      clear HB
      clear h0_ h1_ h2_ h3_ h4_ h5_ h6_ h7_ h8_ h9_ h10_ h11_ h12_ h13_ h14_ h15_ h16_ h17_ h18_ h19_ h20_ h21_ h22_ h23_
      have BK139 := n0_
      have BK140 := n1_
      have BK141 := n2_
      have BK148 := n3_
      have BK149 := n4_
      have GW148 := n5_
      have GE148 := n6_
      have NB139_148 := n7_
      have NB148_139 := n8_
      have NB140_148 := n9_
      have NB148_140 := n10_
      have NB141_148 := n11_
      have NB148_141 := n12_
      have NB149_148 := n13_
      have NB148_149 := n14_
      have GW149 := n15_
      have GE149 := n16_
      have NB139_149 := n17_
      have NB149_139 := n18_
      have NB140_149 := n19_
      have NB149_140 := n20_
      have NB141_149 := n21_
      have NB149_141 := n22_
      have HB := n23_
      clear n0_ n1_ n2_ n3_ n4_ n5_ n6_ n7_ n8_ n9_ n10_ n11_ n12_ n13_ n14_ n15_ n16_ n17_ n18_ n19_ n20_ n21_ n22_ n23_
      have hHeld : w20.cell? ⟨gb139, 0, none⟩ = some (.bool a0_0) ∧ w20.cell? ⟨gb139, 1, none⟩ = some (.slice (some ad142) l0_1.length c0_1) ∧ w20.cell? (ad142.add ((a1).toNat * 2)) = some (.int .i64 ((rd_T34 l0_1 a1).f0)) ∧ w20.cell? ⟨(ad142.add ((a1).toNat * 2)).block, (ad142.add ((a1).toNat * 2)).off + 1, none⟩ = some (.int .i64 ((rd_T34 l0_1 a1).f1)) ∧ w20.cell? (ad142.add (((ji7)).toNat * 2)) = some (.int .i64 ((rd_T34 l0_1 (ji7)).f0)) ∧ w20.cell? ⟨(ad142.add (((ji7)).toNat * 2)).block, (ad142.add (((ji7)).toNat * 2)).off + 1, none⟩ = some (.int .i64 ((rd_T34 l0_1 (ji7)).f1)) := hS_
      refine norm_ (a' := ?_) ?_ ?_
      rotate_left
      ·simp only [putAll, Act.put, List.setIfInBounds_toArray, List.set_cons_zero, List.set_cons_succ]
       rfl
      refine one_ (i := 19) (N := none) #[true, true, true, true, true, true, true, true, true, true, true, true, true, true, true, true, true, true, true, true, false] rfl rfl (one_of HT_.out (by kernel_rfl)) (by decide) (fun K hK => ?_)
      have hs21 : w20.cell? ⟨gb148, 0, none⟩ = some (.int .i64 0) := (blk_cell BK148.out 0).trans rfl
      have hfs21 := blk_frozen BK148.out 0
      have hns21_0 := NB139_148.out
      have hns21_1 := NB140_148.out
      have hns21_2 := NB141_148.out
      have hns21_4 := NB149_148.out
      have hms21_0 := NB148_139.out
      have hms21_1 := NB148_140.out
      have hms21_2 := NB148_141.out
      have hms21_4 := NB148_149.out
      have hs22 : w20.cell? ⟨gb148, 1, none⟩ = some (.int .i64 0) := (blk_cell BK148.out 1).trans rfl
      have hfs22 := blk_frozen BK148.out 1
      have hns22_0 := NB139_148.out
      have hns22_1 := NB140_148.out
      have hns22_2 := NB141_148.out
      have hns22_4 := NB149_148.out
      have hms22_0 := NB148_139.out
      have hms22_1 := NB148_140.out
      have hms22_2 := NB148_141.out
      have hms22_4 := NB148_149.out
      refine skip_ (w1 := ?_) (by rfl) rfl ?_ ?_
      rotate_left
      ·go_simp
       rfl
      refine hK.out _ _ ⟨((cell_far (p := ⟨gb148, _, none⟩) NB139_148.out _).trans (((cell_far (p := ⟨gb148, _, none⟩) NB139_148.out _).trans (hHeld.1)))), ((cell_far (p := ⟨gb148, _, none⟩) NB139_148.out _).trans (((cell_far (p := ⟨gb148, _, none⟩) NB139_148.out _).trans (hHeld.2.1)))), ((cell_far (p := ⟨gb148, _, none⟩) (by first | exact Nat.ne_of_lt (Nat.lt_of_lt_of_le (by have := World.block_lt_of_cell? _ _ hw142_0; first | rwa [add_block] at this | exact this) GW148.out) | (rw [add_block]; exact Nat.ne_of_lt (Nat.lt_of_lt_of_le (by have := World.block_lt_of_cell? _ _ hw142_0; first | rwa [add_block] at this | exact this) GW148.out)) | (show (Addr.add _ _).block ≠ _; rw [add_block]; exact Nat.ne_of_lt (Nat.lt_of_lt_of_le (by have := World.block_lt_of_cell? _ _ hw142_0; first | rwa [add_block] at this | exact this) GW148.out)) | (dsimp only; exact Nat.ne_of_lt (Nat.lt_of_lt_of_le (by have := World.block_lt_of_cell? _ _ hw142_0; first | rwa [add_block] at this | exact this) GW148.out))) _).trans (((cell_far (p := ⟨gb148, _, none⟩) (by first | exact Nat.ne_of_lt (Nat.lt_of_lt_of_le (by have := World.block_lt_of_cell? _ _ hw142_0; first | rwa [add_block] at this | exact this) GW148.out) | (rw [add_block]; exact Nat.ne_of_lt (Nat.lt_of_lt_of_le (by have := World.block_lt_of_cell? _ _ hw142_0; first | rwa [add_block] at this | exact this) GW148.out)) | (show (Addr.add _ _).block ≠ _; rw [add_block]; exact Nat.ne_of_lt (Nat.lt_of_lt_of_le (by have := World.block_lt_of_cell? _ _ hw142_0; first | rwa [add_block] at this | exact this) GW148.out)) | (dsimp only; exact Nat.ne_of_lt (Nat.lt_of_lt_of_le (by have := World.block_lt_of_cell? _ _ hw142_0; first | rwa [add_block] at this | exact this) GW148.out))) _).trans (hHeld.2.2.1)))), ((cell_far (p := ⟨gb148, _, none⟩) (by first | exact Nat.ne_of_lt (Nat.lt_of_lt_of_le (by have := World.block_lt_of_cell? _ _ hw142_1; first | rwa [add_block] at this | exact this) GW148.out) | (rw [add_block]; exact Nat.ne_of_lt (Nat.lt_of_lt_of_le (by have := World.block_lt_of_cell? _ _ hw142_1; first | rwa [add_block] at this | exact this) GW148.out)) | (show (Addr.add _ _).block ≠ _; rw [add_block]; exact Nat.ne_of_lt (Nat.lt_of_lt_of_le (by have := World.block_lt_of_cell? _ _ hw142_1; first | rwa [add_block] at this | exact this) GW148.out)) | (dsimp only; exact Nat.ne_of_lt (Nat.lt_of_lt_of_le (by have := World.block_lt_of_cell? _ _ hw142_1; first | rwa [add_block] at this | exact this) GW148.out))) _).trans (((cell_far (p := ⟨gb148, _, none⟩) (by first | exact Nat.ne_of_lt (Nat.lt_of_lt_of_le (by have := World.block_lt_of_cell? _ _ hw142_1; first | rwa [add_block] at this | exact this) GW148.out) | (rw [add_block]; exact Nat.ne_of_lt (Nat.lt_of_lt_of_le (by have := World.block_lt_of_cell? _ _ hw142_1; first | rwa [add_block] at this | exact this) GW148.out)) | (show (Addr.add _ _).block ≠ _; rw [add_block]; exact Nat.ne_of_lt (Nat.lt_of_lt_of_le (by have := World.block_lt_of_cell? _ _ hw142_1; first | rwa [add_block] at this | exact this) GW148.out)) | (dsimp only; exact Nat.ne_of_lt (Nat.lt_of_lt_of_le (by have := World.block_lt_of_cell? _ _ hw142_1; first | rwa [add_block] at this | exact this) GW148.out))) _).trans (hHeld.2.2.2.1)))), ((cell_far (p := ⟨gb148, _, none⟩) (by first | exact Nat.ne_of_lt (Nat.lt_of_lt_of_le (by have := World.block_lt_of_cell? _ _ hw145_0; first | rwa [add_block] at this | exact this) GW148.out) | (rw [add_block]; exact Nat.ne_of_lt (Nat.lt_of_lt_of_le (by have := World.block_lt_of_cell? _ _ hw145_0; first | rwa [add_block] at this | exact this) GW148.out)) | (show (Addr.add _ _).block ≠ _; rw [add_block]; exact Nat.ne_of_lt (Nat.lt_of_lt_of_le (by have := World.block_lt_of_cell? _ _ hw145_0; first | rwa [add_block] at this | exact this) GW148.out)) | (dsimp only; exact Nat.ne_of_lt (Nat.lt_of_lt_of_le (by have := World.block_lt_of_cell? _ _ hw145_0; first | rwa [add_block] at this | exact this) GW148.out))) _).trans (((cell_far (p := ⟨gb148, _, none⟩) (by first | exact Nat.ne_of_lt (Nat.lt_of_lt_of_le (by have := World.block_lt_of_cell? _ _ hw145_0; first | rwa [add_block] at this | exact this) GW148.out) | (rw [add_block]; exact Nat.ne_of_lt (Nat.lt_of_lt_of_le (by have := World.block_lt_of_cell? _ _ hw145_0; first | rwa [add_block] at this | exact this) GW148.out)) | (show (Addr.add _ _).block ≠ _; rw [add_block]; exact Nat.ne_of_lt (Nat.lt_of_lt_of_le (by have := World.block_lt_of_cell? _ _ hw145_0; first | rwa [add_block] at this | exact this) GW148.out)) | (dsimp only; exact Nat.ne_of_lt (Nat.lt_of_lt_of_le (by have := World.block_lt_of_cell? _ _ hw145_0; first | rwa [add_block] at this | exact this) GW148.out))) _).trans (hHeld.2.2.2.2.1)))), ((cell_far (p := ⟨gb148, _, none⟩) (by first | exact Nat.ne_of_lt (Nat.lt_of_lt_of_le (by have := World.block_lt_of_cell? _ _ hw145_1; first | rwa [add_block] at this | exact this) GW148.out) | (rw [add_block]; exact Nat.ne_of_lt (Nat.lt_of_lt_of_le (by have := World.block_lt_of_cell? _ _ hw145_1; first | rwa [add_block] at this | exact this) GW148.out)) | (show (Addr.add _ _).block ≠ _; rw [add_block]; exact Nat.ne_of_lt (Nat.lt_of_lt_of_le (by have := World.block_lt_of_cell? _ _ hw145_1; first | rwa [add_block] at this | exact this) GW148.out)) | (dsimp only; exact Nat.ne_of_lt (Nat.lt_of_lt_of_le (by have := World.block_lt_of_cell? _ _ hw145_1; first | rwa [add_block] at this | exact this) GW148.out))) _).trans (((cell_far (p := ⟨gb148, _, none⟩) (by first | exact Nat.ne_of_lt (Nat.lt_of_lt_of_le (by have := World.block_lt_of_cell? _ _ hw145_1; first | rwa [add_block] at this | exact this) GW148.out) | (rw [add_block]; exact Nat.ne_of_lt (Nat.lt_of_lt_of_le (by have := World.block_lt_of_cell? _ _ hw145_1; first | rwa [add_block] at this | exact this) GW148.out)) | (show (Addr.add _ _).block ≠ _; rw [add_block]; exact Nat.ne_of_lt (Nat.lt_of_lt_of_le (by have := World.block_lt_of_cell? _ _ hw145_1; first | rwa [add_block] at this | exact this) GW148.out)) | (dsimp only; exact Nat.ne_of_lt (Nat.lt_of_lt_of_le (by have := World.block_lt_of_cell? _ _ hw145_1; first | rwa [add_block] at this | exact this) GW148.out))) _).trans (hHeld.2.2.2.2.2))))⟩ (fun hHeld => ?_)
      clear hK K
      refine one_ (i := 20) (N := none) #[true, true, true, true, true, true, true, true, true, true, true, true, true, true, true, true, true, true, true, true, true] rfl rfl (one_of HT_.out (by kernel_rfl)) (by decide) (fun K hK => ?_)
      have hs23 : w20.cell? ⟨gb149, 0, none⟩ = some (.int .i64 0) := (blk_cell BK149.out 0).trans rfl
      have hfs23 := blk_frozen BK149.out 0
      have hns23_0 := NB139_149.out
      have hns23_1 := NB140_149.out
      have hns23_2 := NB141_149.out
      have hns23_3 := NB148_149.out
      have hms23_0 := NB149_139.out
      have hms23_1 := NB149_140.out
      have hms23_2 := NB149_141.out
      have hms23_3 := NB149_148.out
      have hs24 : w20.cell? ⟨gb149, 1, none⟩ = some (.int .i64 0) := (blk_cell BK149.out 1).trans rfl
      have hfs24 := blk_frozen BK149.out 1
      have hns24_0 := NB139_149.out
      have hns24_1 := NB140_149.out
      have hns24_2 := NB141_149.out
      have hns24_3 := NB148_149.out
      have hms24_0 := NB149_139.out
      have hms24_1 := NB149_140.out
      have hms24_2 := NB149_141.out
      have hms24_3 := NB149_148.out
      refine skip_ (w1 := ?_) (by rfl) rfl ?_ ?_
      rotate_left
      ·go_simp
       rfl
      refine hK.out _ _ ⟨((cell_far (p := ⟨gb149, _, none⟩) NB139_149.out _).trans (((cell_far (p := ⟨gb149, _, none⟩) NB139_149.out _).trans (hHeld.1)))), ((cell_far (p := ⟨gb149, _, none⟩) NB139_149.out _).trans (((cell_far (p := ⟨gb149, _, none⟩) NB139_149.out _).trans (hHeld.2.1)))), ((cell_far (p := ⟨gb149, _, none⟩) (by first | exact Nat.ne_of_lt (Nat.lt_of_lt_of_le (by have := World.block_lt_of_cell? _ _ hw142_0; first | rwa [add_block] at this | exact this) GW149.out) | (rw [add_block]; exact Nat.ne_of_lt (Nat.lt_of_lt_of_le (by have := World.block_lt_of_cell? _ _ hw142_0; first | rwa [add_block] at this | exact this) GW149.out)) | (show (Addr.add _ _).block ≠ _; rw [add_block]; exact Nat.ne_of_lt (Nat.lt_of_lt_of_le (by have := World.block_lt_of_cell? _ _ hw142_0; first | rwa [add_block] at this | exact this) GW149.out)) | (dsimp only; exact Nat.ne_of_lt (Nat.lt_of_lt_of_le (by have := World.block_lt_of_cell? _ _ hw142_0; first | rwa [add_block] at this | exact this) GW149.out))) _).trans (((cell_far (p := ⟨gb149, _, none⟩) (by first | exact Nat.ne_of_lt (Nat.lt_of_lt_of_le (by have := World.block_lt_of_cell? _ _ hw142_0; first | rwa [add_block] at this | exact this) GW149.out) | (rw [add_block]; exact Nat.ne_of_lt (Nat.lt_of_lt_of_le (by have := World.block_lt_of_cell? _ _ hw142_0; first | rwa [add_block] at this | exact this) GW149.out)) | (show (Addr.add _ _).block ≠ _; rw [add_block]; exact Nat.ne_of_lt (Nat.lt_of_lt_of_le (by have := World.block_lt_of_cell? _ _ hw142_0; first | rwa [add_block] at this | exact this) GW149.out)) | (dsimp only; exact Nat.ne_of_lt (Nat.lt_of_lt_of_le (by have := World.block_lt_of_cell? _ _ hw142_0; first | rwa [add_block] at this | exact this) GW149.out))) _).trans (hHeld.2.2.1)))), ((cell_far (p := ⟨gb149, _, none⟩) (by first | exact Nat.ne_of_lt (Nat.lt_of_lt_of_le (by have := World.block_lt_of_cell? _ _ hw142_1; first | rwa [add_block] at this | exact this) GW149.out) | (rw [add_block]; exact Nat.ne_of_lt (Nat.lt_of_lt_of_le (by have := World.block_lt_of_cell? _ _ hw142_1; first | rwa [add_block] at this | exact this) GW149.out)) | (show (Addr.add _ _).block ≠ _; rw [add_block]; exact Nat.ne_of_lt (Nat.lt_of_lt_of_le (by have := World.block_lt_of_cell? _ _ hw142_1; first | rwa [add_block] at this | exact this) GW149.out)) | (dsimp only; exact Nat.ne_of_lt (Nat.lt_of_lt_of_le (by have := World.block_lt_of_cell? _ _ hw142_1; first | rwa [add_block] at this | exact this) GW149.out))) _).trans (((cell_far (p := ⟨gb149, _, none⟩) (by first | exact Nat.ne_of_lt (Nat.lt_of_lt_of_le (by have := World.block_lt_of_cell? _ _ hw142_1; first | rwa [add_block] at this | exact this) GW149.out) | (rw [add_block]; exact Nat.ne_of_lt (Nat.lt_of_lt_of_le (by have := World.block_lt_of_cell? _ _ hw142_1; first | rwa [add_block] at this | exact this) GW149.out)) | (show (Addr.add _ _).block ≠ _; rw [add_block]; exact Nat.ne_of_lt (Nat.lt_of_lt_of_le (by have := World.block_lt_of_cell? _ _ hw142_1; first | rwa [add_block] at this | exact this) GW149.out)) | (dsimp only; exact Nat.ne_of_lt (Nat.lt_of_lt_of_le (by have := World.block_lt_of_cell? _ _ hw142_1; first | rwa [add_block] at this | exact this) GW149.out))) _).trans (hHeld.2.2.2.1)))), ((cell_far (p := ⟨gb149, _, none⟩) (by first | exact Nat.ne_of_lt (Nat.lt_of_lt_of_le (by have := World.block_lt_of_cell? _ _ hw145_0; first | rwa [add_block] at this | exact this) GW149.out) | (rw [add_block]; exact Nat.ne_of_lt (Nat.lt_of_lt_of_le (by have := World.block_lt_of_cell? _ _ hw145_0; first | rwa [add_block] at this | exact this) GW149.out)) | (show (Addr.add _ _).block ≠ _; rw [add_block]; exact Nat.ne_of_lt (Nat.lt_of_lt_of_le (by have := World.block_lt_of_cell? _ _ hw145_0; first | rwa [add_block] at this | exact this) GW149.out)) | (dsimp only; exact Nat.ne_of_lt (Nat.lt_of_lt_of_le (by have := World.block_lt_of_cell? _ _ hw145_0; first | rwa [add_block] at this | exact this) GW149.out))) _).trans (((cell_far (p := ⟨gb149, _, none⟩) (by first | exact Nat.ne_of_lt (Nat.lt_of_lt_of_le (by have := World.block_lt_of_cell? _ _ hw145_0; first | rwa [add_block] at this | exact this) GW149.out) | (rw [add_block]; exact Nat.ne_of_lt (Nat.lt_of_lt_of_le (by have := World.block_lt_of_cell? _ _ hw145_0; first | rwa [add_block] at this | exact this) GW149.out)) | (show (Addr.add _ _).block ≠ _; rw [add_block]; exact Nat.ne_of_lt (Nat.lt_of_lt_of_le (by have := World.block_lt_of_cell? _ _ hw145_0; first | rwa [add_block] at this | exact this) GW149.out)) | (dsimp only; exact Nat.ne_of_lt (Nat.lt_of_lt_of_le (by have := World.block_lt_of_cell? _ _ hw145_0; first | rwa [add_block] at this | exact this) GW149.out))) _).trans (hHeld.2.2.2.2.1)))), ((cell_far (p := ⟨gb149, _, none⟩) (by first | exact Nat.ne_of_lt (Nat.lt_of_lt_of_le (by have := World.block_lt_of_cell? _ _ hw145_1; first | rwa [add_block] at this | exact this) GW149.out) | (rw [add_block]; exact Nat.ne_of_lt (Nat.lt_of_lt_of_le (by have := World.block_lt_of_cell? _ _ hw145_1; first | rwa [add_block] at this | exact this) GW149.out)) | (show (Addr.add _ _).block ≠ _; rw [add_block]; exact Nat.ne_of_lt (Nat.lt_of_lt_of_le (by have := World.block_lt_of_cell? _ _ hw145_1; first | rwa [add_block] at this | exact this) GW149.out)) | (dsimp only; exact Nat.ne_of_lt (Nat.lt_of_lt_of_le (by have := World.block_lt_of_cell? _ _ hw145_1; first | rwa [add_block] at this | exact this) GW149.out))) _).trans (((cell_far (p := ⟨gb149, _, none⟩) (by first | exact Nat.ne_of_lt (Nat.lt_of_lt_of_le (by have := World.block_lt_of_cell? _ _ hw145_1; first | rwa [add_block] at this | exact this) GW149.out) | (rw [add_block]; exact Nat.ne_of_lt (Nat.lt_of_lt_of_le (by have := World.block_lt_of_cell? _ _ hw145_1; first | rwa [add_block] at this | exact this) GW149.out)) | (show (Addr.add _ _).block ≠ _; rw [add_block]; exact Nat.ne_of_lt (Nat.lt_of_lt_of_le (by have := World.block_lt_of_cell? _ _ hw145_1; first | rwa [add_block] at this | exact this) GW149.out)) | (dsimp only; exact Nat.ne_of_lt (Nat.lt_of_lt_of_le (by have := World.block_lt_of_cell? _ _ hw145_1; first | rwa [add_block] at this | exact this) GW149.out))) _).trans (hHeld.2.2.2.2.2))))⟩ (fun hHeld => ?_)
      clear hK K
      refine done_ (done_of HT_.out (by kernel_rfl)) ?_
      try go_wp2
      have n0_ : Aside0 (((((w20.setCell ⟨gb148, 0, none⟩ (.int .i64 t143)).setCell ⟨gb148, 1, none⟩ (.int .i64 t144)).setCell ⟨gb149, 0, none⟩ (.int .i64 t146)).setCell ⟨gb149, 1, none⟩ (.int .i64 t147)).heap[gb139]? = some (.cells #[.bool a0_0, .slice (some ad142) l0_1.length c0_1] 39 (0, 0))) := ⟨by (with_reducible repeat (first | refine blk_drewN ?_ _ | refine blk_drew ?_ | refine blk_alloc ?_ _)); refine blk_far ?_ NB139_149.out _; (with_reducible repeat (first | refine blk_drewN ?_ _ | refine blk_drew ?_ | refine blk_alloc ?_ _)); refine blk_far ?_ NB139_149.out _; (with_reducible repeat (first | refine blk_drewN ?_ _ | refine blk_drew ?_ | refine blk_alloc ?_ _)); refine blk_far ?_ NB139_148.out _; (with_reducible repeat (first | refine blk_drewN ?_ _ | refine blk_drew ?_ | refine blk_alloc ?_ _)); refine blk_far ?_ NB139_148.out _; (with_reducible repeat (first | refine blk_drewN ?_ _ | refine blk_drew ?_ | refine blk_alloc ?_ _)); exact BK139.out⟩
      have n1_ : Aside0 (((((w20.setCell ⟨gb148, 0, none⟩ (.int .i64 t143)).setCell ⟨gb148, 1, none⟩ (.int .i64 t144)).setCell ⟨gb149, 0, none⟩ (.int .i64 t146)).setCell ⟨gb149, 1, none⟩ (.int .i64 t147)).heap[gb140]? = some (.cells #[.int .i64 0, .int .i64 0] 34 (0, 0))) := ⟨by (with_reducible repeat (first | refine blk_drewN ?_ _ | refine blk_drew ?_ | refine blk_alloc ?_ _)); refine blk_far ?_ NB140_149.out _; (with_reducible repeat (first | refine blk_drewN ?_ _ | refine blk_drew ?_ | refine blk_alloc ?_ _)); refine blk_far ?_ NB140_149.out _; (with_reducible repeat (first | refine blk_drewN ?_ _ | refine blk_drew ?_ | refine blk_alloc ?_ _)); refine blk_far ?_ NB140_148.out _; (with_reducible repeat (first | refine blk_drewN ?_ _ | refine blk_drew ?_ | refine blk_alloc ?_ _)); refine blk_far ?_ NB140_148.out _; (with_reducible repeat (first | refine blk_drewN ?_ _ | refine blk_drew ?_ | refine blk_alloc ?_ _)); exact BK140.out⟩
      have n2_ : Aside0 (((((w20.setCell ⟨gb148, 0, none⟩ (.int .i64 t143)).setCell ⟨gb148, 1, none⟩ (.int .i64 t144)).setCell ⟨gb149, 0, none⟩ (.int .i64 t146)).setCell ⟨gb149, 1, none⟩ (.int .i64 t147)).heap[gb141]? = some (.cells #[.int .i64 0, .int .i64 0] 34 (0, 0))) := ⟨by (with_reducible repeat (first | refine blk_drewN ?_ _ | refine blk_drew ?_ | refine blk_alloc ?_ _)); refine blk_far ?_ NB141_149.out _; (with_reducible repeat (first | refine blk_drewN ?_ _ | refine blk_drew ?_ | refine blk_alloc ?_ _)); refine blk_far ?_ NB141_149.out _; (with_reducible repeat (first | refine blk_drewN ?_ _ | refine blk_drew ?_ | refine blk_alloc ?_ _)); refine blk_far ?_ NB141_148.out _; (with_reducible repeat (first | refine blk_drewN ?_ _ | refine blk_drew ?_ | refine blk_alloc ?_ _)); refine blk_far ?_ NB141_148.out _; (with_reducible repeat (first | refine blk_drewN ?_ _ | refine blk_drew ?_ | refine blk_alloc ?_ _)); exact BK141.out⟩
      have n3_ : Aside0 (((((w20.setCell ⟨gb148, 0, none⟩ (.int .i64 t143)).setCell ⟨gb148, 1, none⟩ (.int .i64 t144)).setCell ⟨gb149, 0, none⟩ (.int .i64 t146)).setCell ⟨gb149, 1, none⟩ (.int .i64 t147)).heap[gb148]? = some (.cells #[.int .i64 t143, .int .i64 t144] 34 (0, 0))) := ⟨by (with_reducible repeat (first | refine blk_drewN ?_ _ | refine blk_drew ?_ | refine blk_alloc ?_ _)); refine blk_far ?_ NB148_149.out _; (with_reducible repeat (first | refine blk_drewN ?_ _ | refine blk_drew ?_ | refine blk_alloc ?_ _)); refine blk_far ?_ NB148_149.out _; (with_reducible repeat (first | refine blk_drewN ?_ _ | refine blk_drew ?_ | refine blk_alloc ?_ _)); refine blk_put (cs := #[.int .i64 t143, .int .i64 0]) ?_ 1 _ rfl; (with_reducible repeat (first | refine blk_drewN ?_ _ | refine blk_drew ?_ | refine blk_alloc ?_ _)); refine blk_put (cs := #[.int .i64 0, .int .i64 0]) ?_ 0 _ rfl; (with_reducible repeat (first | refine blk_drewN ?_ _ | refine blk_drew ?_ | refine blk_alloc ?_ _)); exact BK148.out⟩
      have n4_ : Aside0 (((((w20.setCell ⟨gb148, 0, none⟩ (.int .i64 t143)).setCell ⟨gb148, 1, none⟩ (.int .i64 t144)).setCell ⟨gb149, 0, none⟩ (.int .i64 t146)).setCell ⟨gb149, 1, none⟩ (.int .i64 t147)).heap[gb149]? = some (.cells #[.int .i64 t146, .int .i64 t147] 34 (0, 0))) := ⟨by (with_reducible repeat (first | refine blk_drewN ?_ _ | refine blk_drew ?_ | refine blk_alloc ?_ _)); refine blk_put (cs := #[.int .i64 t146, .int .i64 0]) ?_ 1 _ rfl; (with_reducible repeat (first | refine blk_drewN ?_ _ | refine blk_drew ?_ | refine blk_alloc ?_ _)); refine blk_put (cs := #[.int .i64 0, .int .i64 0]) ?_ 0 _ rfl; (with_reducible repeat (first | refine blk_drewN ?_ _ | refine blk_drew ?_ | refine blk_alloc ?_ _)); refine blk_far ?_ NB149_148.out _; (with_reducible repeat (first | refine blk_drewN ?_ _ | refine blk_drew ?_ | refine blk_alloc ?_ _)); refine blk_far ?_ NB149_148.out _; (with_reducible repeat (first | refine blk_drewN ?_ _ | refine blk_drew ?_ | refine blk_alloc ?_ _)); exact BK149.out⟩
      have n5_ : Aside0 (Below w.heap.size w ((((w20.setCell ⟨gb148, 0, none⟩ (.int .i64 t143)).setCell ⟨gb148, 1, none⟩ (.int .i64 t144)).setCell ⟨gb149, 0, none⟩ (.int .i64 t146)).setCell ⟨gb149, 1, none⟩ (.int .i64 t147))) := ⟨by repeat (first | (with_reducible first | exact HB.out | apply below_alloc | apply pw_below_drewN | apply below_drew1 | refine below_set ?_ GE139.out | refine below_set ?_ GE140.out | refine below_set ?_ GE141.out | refine below_set ?_ GE148.out | refine below_set ?_ GE149.out) | exact HB.out)⟩
      (try clear BK139)
      (try clear BK140)
      (try clear BK141)
      (try clear BK148)
      (try clear BK149)
      (try clear HB)
      generalize ((((w20.setCell ⟨gb148, 0, none⟩ (.int .i64 t143)).setCell ⟨gb148, 1, none⟩ (.int .i64 t144)).setCell ⟨gb149, 0, none⟩ (.int .i64 t146)).setCell ⟨gb149, 1, none⟩ (.int .i64 t147)) = w25 at n0_ n1_ n2_ n3_ n4_ n5_ ⊢
      have BK139 := n0_
      have BK140 := n1_
      have BK141 := n2_
      have BK148 := n3_
      have BK149 := n4_
      have HB := n5_
      clear n0_ n1_ n2_ n3_ n4_ n5_
      have n0_ := Aside0.mk (blk_drew BK139.out)
      have n1_ := Aside0.mk (blk_drew BK140.out)
      have n2_ := Aside0.mk (blk_drew BK141.out)
      have n3_ := Aside0.mk (blk_drew BK148.out)
      have n4_ := Aside0.mk (blk_drew BK149.out)
      have n5_ := Aside0.mk (below_drew1 HB.out)
      clear BK139
      clear BK140
      clear BK141
      clear BK148
      clear BK149
      clear HB
      have BK139 := n0_
      have BK140 := n1_
      have BK141 := n2_
      have BK148 := n3_
      have BK149 := n4_
      have HB := n5_
      clear n0_ n1_ n2_ n3_ n4_ n5_
      refine start_ (n := 16) (S := fun w' => w'.cell? ⟨gb148, 0, none⟩ = some (.int .i64 t143) ∧ w'.cell? ⟨gb148, 1, none⟩ = some (.int .i64 t144) ∧ w'.cell? ⟨gb149, 0, none⟩ = some (.int .i64 t146) ∧ w'.cell? ⟨gb149, 1, none⟩ = some (.int .i64 t147)) (ds := []) #[false, false, false, false, false, false, false, false, false, false, false, false, false, false, false, false] (by kernel_rfl) rfl rfl ⟨(blk_cell BK148.out 0).trans rfl, (blk_cell BK148.out 1).trans rfl, (blk_cell BK149.out 0).trans rfl, (blk_cell BK149.out 1).trans rfl⟩ (fun hHeld => ?_); refine with_tabW arc_Side.tab2 arc_Side.bits2 (fun HT_ HW_ => ?_)
      generalize w25.drew = w26 at BK139 BK140 BK141 BK148 BK149 HB hHeld ⊢
      refine pure_ (i := 2) (N := some 28) (v := ?_) (a' := ?_) #[false, false, true, false, false, false, false, false, false, false, false, false, false, false, false, false] rfl rfl (any_of HT_.out (by kernel_rfl)) (fun _ _ _ h => h) (Or.inl ⟨by rfl, ?_⟩) ?_ ?_
      rotate_left
      ·intro w'
       go_simp
       with_reducible rfl
      rotate_left
      ·simp only [Act.put, List.setIfInBounds_toArray, List.set_cons_zero, List.set_cons_succ, i64_w, i32_w]
       rfl
      refine pure_ (i := 4) (N := some 30) (v := ?_) (a' := ?_) #[false, false, true, false, true, false, false, false, false, false, false, false, false, false, false, false] rfl rfl (any_of HT_.out (by kernel_rfl)) (fun _ _ _ h => h) (Or.inl ⟨by rfl, ?_⟩) ?_ ?_
      rotate_left
      ·intro w'
       go_simp
       with_reducible rfl
      rotate_left
      ·simp only [Act.put, List.setIfInBounds_toArray, List.set_cons_zero, List.set_cons_succ, i64_w, i32_w]
       rfl
      refine pure_ (i := 7) (N := some 33) (v := ?_) (a' := ?_) #[false, false, true, false, true, false, false, true, false, false, false, false, false, false, false, false] rfl rfl (any_of HT_.out (by kernel_rfl)) (fun _ _ _ h => h) (Or.inl ⟨by rfl, ?_⟩) ?_ ?_
      rotate_left
      ·intro w'
       go_simp
       with_reducible rfl
      rotate_left
      ·simp only [Act.put, List.setIfInBounds_toArray, List.set_cons_zero, List.set_cons_succ, i64_w, i32_w]
       rfl
      refine pure_ (i := 9) (N := some 35) (v := ?_) (a' := ?_) #[false, false, true, false, true, false, false, true, false, true, false, false, false, false, false, false] rfl rfl (any_of HT_.out (by kernel_rfl)) (fun _ _ _ h => h) (Or.inl ⟨by rfl, ?_⟩) ?_ ?_
      rotate_left
      ·intro w'
       go_simp
       with_reducible rfl
      rotate_left
      ·simp only [Act.put, List.setIfInBounds_toArray, List.set_cons_zero, List.set_cons_succ, i64_w, i32_w]
       rfl
      refine take_ (i := 0) (N := some 26) (v := ?_) (a' := ?_) #[true, false, true, false, true, false, false, true, false, true, false, false, false, false, false, false] rfl rfl (take_ofW HT_.out HW_.out (by kernel_rfl)) (fun _ _ _ h => h) (Or.inl ⟨by rfl, ?_⟩) hHeld ?_ ?_
      rotate_left
      ·rintro w' ⟨s0, s1, s2, s3⟩
       go_simp
       with_reducible rfl
      rotate_left
      ·simp only [Act.put, List.setIfInBounds_toArray, List.set_cons_zero, List.set_cons_succ, i64_w, i32_w]
       rfl
      refine take_ (i := 1) (N := some 27) (v := ?_) (a' := ?_) #[true, true, true, false, true, false, false, true, false, true, false, false, false, false, false, false] rfl rfl (take_ofW HT_.out HW_.out (by kernel_rfl)) (fun _ _ _ h => h) (Or.inl ⟨by rfl, ?_⟩) hHeld ?_ ?_
      rotate_left
      ·rintro w' ⟨s0, s1, s2, s3⟩
       go_simp
       with_reducible rfl
      rotate_left
      ·simp only [Act.put, List.setIfInBounds_toArray, List.set_cons_zero, List.set_cons_succ, i64_w, i32_w]
       rfl
      refine take_ (i := 3) (N := some 29) (v := ?_) (a' := ?_) #[true, true, true, true, true, false, false, true, false, true, false, false, false, false, false, false] rfl rfl (take_ofW HT_.out HW_.out (by kernel_rfl)) (fun _ _ _ h => h) (Or.inl ⟨by rfl, ?_⟩) hHeld ?_ ?_
      rotate_left
      ·rintro w' ⟨s0, s1, s2, s3⟩
       go_simp
       with_reducible rfl
      rotate_left
      ·simp only [Act.put, List.setIfInBounds_toArray, List.set_cons_zero, List.set_cons_succ, i64_w, i32_w]
       rfl
      refine take_ (i := 5) (N := some 31) (v := ?_) (a' := ?_) #[true, true, true, true, true, true, false, true, false, true, false, false, false, false, false, false] rfl rfl (take_ofW HT_.out HW_.out (by kernel_rfl)) (fun _ _ _ h => h) (Or.inl ⟨by rfl, ?_⟩) hHeld ?_ ?_
      rotate_left
      ·rintro w' ⟨s0, s1, s2, s3⟩
       go_simp
       with_reducible rfl
      rotate_left
      ·simp only [Act.put, List.setIfInBounds_toArray, List.set_cons_zero, List.set_cons_succ, i64_w, i32_w]
       rfl
      refine pure_ (i := 6) (N := some 32) (v := ?_) (a' := ?_) #[true, true, true, true, true, true, true, true, false, true, false, false, false, false, false, false] rfl rfl (any_of HT_.out (by kernel_rfl)) (fun _ _ _ h => h) (Or.inl ⟨by rfl, ?_⟩) ?_ ?_
      rotate_left
      ·intro w'
       go_simp
       with_reducible rfl
      rotate_left
      ·simp only [Act.put, List.setIfInBounds_toArray, List.set_cons_zero, List.set_cons_succ, i64_w, i32_w]
       rfl
      refine take_ (i := 8) (N := some 34) (v := ?_) (a' := ?_) #[true, true, true, true, true, true, true, true, true, true, false, false, false, false, false, false] rfl rfl (take_ofW HT_.out HW_.out (by kernel_rfl)) (fun _ _ _ h => h) (Or.inl ⟨by rfl, ?_⟩) hHeld ?_ ?_
      rotate_left
      ·rintro w' ⟨s0, s1, s2, s3⟩
       go_simp
       with_reducible rfl
      rotate_left
      ·simp only [Act.put, List.setIfInBounds_toArray, List.set_cons_zero, List.set_cons_succ, i64_w, i32_w]
       rfl
      refine take_ (i := 10) (N := some 36) (v := ?_) (a' := ?_) #[true, true, true, true, true, true, true, true, true, true, true, false, false, false, false, false] rfl rfl (take_ofW HT_.out HW_.out (by kernel_rfl)) (fun _ _ _ h => h) (Or.inl ⟨by rfl, ?_⟩) hHeld ?_ ?_
      rotate_left
      ·rintro w' ⟨s0, s1, s2, s3⟩
       go_simp
       with_reducible rfl
      rotate_left
      ·simp only [Act.put, List.setIfInBounds_toArray, List.set_cons_zero, List.set_cons_succ, i64_w, i32_w]
       rfl
      refine pure_ (i := 11) (N := some 37) (v := ?_) (a' := ?_) #[true, true, true, true, true, true, true, true, true, true, true, true, false, false, false, false] rfl rfl (any_of HT_.out (by kernel_rfl)) (fun _ _ _ h => h) (Or.inl ⟨by rfl, ?_⟩) ?_ ?_
      rotate_left
      ·intro w'
       go_simp
       with_reducible rfl
      rotate_left
      ·simp only [Act.put, List.setIfInBounds_toArray, List.set_cons_zero, List.set_cons_succ, i64_w, i32_w]
       rfl
      refine one_ (i := 12) (N := some 38) #[true, true, true, true, true, true, true, true, true, true, true, true, true, false, false, false] rfl rfl (one_of HT_.out (by kernel_rfl)) (by decide) (fun K hK => ?_)
      refine goes_ Try.func89 (by kernel_rfl) rfl #[.int .i64 (wrap64 (t146 - t143)), .int .i64 (wrap64 (t147 - t144))] (by rfl) rfl rfl (by (try simp only [List.map_toArray, List.map_cons, List.map_nil]); first | done | rfl | (simp only [List.length_drop, List.length_take]; rfl)) ?_
      with_reducible refine (q_Hyp.calls k (wrap64 (t146 - t143)) (wrap64 (t147 - t144)) t150 _ A11.out).mono ?_
      rintro e w' ⟨rfl, ⟨nd, rfl⟩⟩
      refine ⟨_, rfl, ?_⟩
      refine hK.out _ _ ⟨(blk_cell BK148.out 0).trans rfl, (blk_cell BK148.out 1).trans rfl, (blk_cell BK149.out 0).trans rfl, (blk_cell BK149.out 1).trans rfl⟩ (fun hHeld => ?_)
      clear hK K
      refine norm_ (a' := ?_) ?_ ?_
      rotate_left
      ·show Act.put _ (some 38) _ = _
       simp only [Act.put, List.setIfInBounds_toArray, List.set_cons_zero, List.set_cons_succ, i64_w, i32_w]
       rfl
      refine one_ (i := 13) (N := none) #[true, true, true, true, true, true, true, true, true, true, true, true, true, true, false, false] rfl rfl (one_of HT_.out (by kernel_rfl)) (by decide) (fun K hK => ?_)
      have hs27 : w26.cell? ⟨gb140, 0, none⟩ = some (.int .i64 0) := (blk_cell BK140.out 0).trans rfl
      have hfs27 := blk_frozen BK140.out 0
      have hns27_0 := NB139_140.out
      have hns27_2 := NB141_140.out
      have hns27_3 := NB148_140.out
      have hns27_4 := NB149_140.out
      have hms27_0 := NB140_139.out
      have hms27_2 := NB140_141.out
      have hms27_3 := NB140_148.out
      have hms27_4 := NB140_149.out
      have hs28 : w26.cell? ⟨gb140, 1, none⟩ = some (.int .i64 0) := (blk_cell BK140.out 1).trans rfl
      have hfs28 := blk_frozen BK140.out 1
      have hns28_0 := NB139_140.out
      have hns28_2 := NB141_140.out
      have hns28_3 := NB148_140.out
      have hns28_4 := NB149_140.out
      have hms28_0 := NB140_139.out
      have hms28_2 := NB140_141.out
      have hms28_3 := NB140_148.out
      have hms28_4 := NB140_149.out
      refine skip_ (w1 := ?_) (by rfl) rfl ?_ ?_
      rotate_left
      ·go_simp
       rfl
      refine hK.out _ _ ⟨((cell_far (p := ⟨gb140, _, none⟩) NB148_140.out _).trans (((cell_far (p := ⟨gb140, _, none⟩) NB148_140.out _).trans (hHeld.1)))), ((cell_far (p := ⟨gb140, _, none⟩) NB148_140.out _).trans (((cell_far (p := ⟨gb140, _, none⟩) NB148_140.out _).trans (hHeld.2.1)))), ((cell_far (p := ⟨gb140, _, none⟩) NB149_140.out _).trans (((cell_far (p := ⟨gb140, _, none⟩) NB149_140.out _).trans (hHeld.2.2.1)))), ((cell_far (p := ⟨gb140, _, none⟩) NB149_140.out _).trans (((cell_far (p := ⟨gb140, _, none⟩) NB149_140.out _).trans (hHeld.2.2.2))))⟩ (fun hHeld => ?_)
      clear hK K
      refine one_ (i := 14) (N := none) #[true, true, true, true, true, true, true, true, true, true, true, true, true, true, true, false] rfl rfl (one_of HT_.out (by kernel_rfl)) (by decide) (fun K hK => ?_)
      have hs29 : w26.cell? ⟨gb141, 0, none⟩ = some (.int .i64 0) := (blk_cell BK141.out 0).trans rfl
      have hfs29 := blk_frozen BK141.out 0
      have hns29_0 := NB139_141.out
      have hns29_1 := NB140_141.out
      have hns29_3 := NB148_141.out
      have hns29_4 := NB149_141.out
      have hms29_0 := NB141_139.out
      have hms29_1 := NB141_140.out
      have hms29_3 := NB141_148.out
      have hms29_4 := NB141_149.out
      have hs30 : w26.cell? ⟨gb141, 1, none⟩ = some (.int .i64 0) := (blk_cell BK141.out 1).trans rfl
      have hfs30 := blk_frozen BK141.out 1
      have hns30_0 := NB139_141.out
      have hns30_1 := NB140_141.out
      have hns30_3 := NB148_141.out
      have hns30_4 := NB149_141.out
      have hms30_0 := NB141_139.out
      have hms30_1 := NB141_140.out
      have hms30_3 := NB141_148.out
      have hms30_4 := NB141_149.out
      refine skip_ (w1 := ?_) (by rfl) rfl ?_ ?_
      rotate_left
      ·go_simp
       rfl
      refine hK.out _ _ ⟨((cell_far (p := ⟨gb141, _, none⟩) NB148_141.out _).trans (((cell_far (p := ⟨gb141, _, none⟩) NB148_141.out _).trans (hHeld.1)))), ((cell_far (p := ⟨gb141, _, none⟩) NB148_141.out _).trans (((cell_far (p := ⟨gb141, _, none⟩) NB148_141.out _).trans (hHeld.2.1)))), ((cell_far (p := ⟨gb141, _, none⟩) NB149_141.out _).trans (((cell_far (p := ⟨gb141, _, none⟩) NB149_141.out _).trans (hHeld.2.2.1)))), ((cell_far (p := ⟨gb141, _, none⟩) NB149_141.out _).trans (((cell_far (p := ⟨gb141, _, none⟩) NB149_141.out _).trans (hHeld.2.2.2))))⟩ (fun hHeld => ?_)
      clear hK K
      refine pure_ (i := 15) (N := some 6) (v := ?_) (a' := ?_) #[true, true, true, true, true, true, true, true, true, true, true, true, true, true, true, true] rfl rfl (any_of HT_.out (by kernel_rfl)) (fun _ _ _ h => h) (Or.inl ⟨by rfl, ?_⟩) ?_ ?_
      rotate_left
      ·intro w'
       go_simp
       with_reducible rfl
      rotate_left
      ·simp only [Act.put, List.setIfInBounds_toArray, List.set_cons_zero, List.set_cons_succ, i64_w, i32_w]
       rfl
      refine done_ (done_of HT_.out (by kernel_rfl)) ?_
      try go_wp2
      refine bodyPost_ret (results_list (rs := [.cell 4 34, .cell 5 34, .tmp 6]) rfl (by simp) (.cell gb140 34 #[.int .i64 t143, .int .i64 t144] (0, 0) _ rfl (by (with_reducible repeat (first | refine blk_drewN ?_ _ | refine blk_drew ?_ | refine blk_alloc ?_ _)); refine blk_far ?_ NB140_141.out _; (with_reducible repeat (first | refine blk_drewN ?_ _ | refine blk_drew ?_ | refine blk_alloc ?_ _)); refine blk_far ?_ NB140_141.out _; (with_reducible repeat (first | refine blk_drewN ?_ _ | refine blk_drew ?_ | refine blk_alloc ?_ _)); refine blk_put (cs := #[.int .i64 t143, .int .i64 0]) ?_ 1 _ rfl; (with_reducible repeat (first | refine blk_drewN ?_ _ | refine blk_drew ?_ | refine blk_alloc ?_ _)); refine blk_put (cs := #[.int .i64 0, .int .i64 0]) ?_ 0 _ rfl; (with_reducible repeat (first | refine blk_drewN ?_ _ | refine blk_drew ?_ | refine blk_alloc ?_ _)); exact BK140.out) Try.underlying34 rfl (by kernel_rfl) (.cell gb141 34 #[.int .i64 t146, .int .i64 t147] (0, 0) _ rfl (by (with_reducible repeat (first | refine blk_drewN ?_ _ | refine blk_drew ?_ | refine blk_alloc ?_ _)); refine blk_put (cs := #[.int .i64 t146, .int .i64 0]) ?_ 1 _ rfl; (with_reducible repeat (first | refine blk_drewN ?_ _ | refine blk_drew ?_ | refine blk_alloc ?_ _)); refine blk_put (cs := #[.int .i64 0, .int .i64 0]) ?_ 0 _ rfl; (with_reducible repeat (first | refine blk_drewN ?_ _ | refine blk_drew ?_ | refine blk_alloc ?_ _)); refine blk_far ?_ NB141_140.out _; (with_reducible repeat (first | refine blk_drewN ?_ _ | refine blk_drew ?_ | refine blk_alloc ?_ _)); refine blk_far ?_ NB141_140.out _; (with_reducible repeat (first | refine blk_drewN ?_ _ | refine blk_drew ?_ | refine blk_alloc ?_ _)); exact BK141.out) Try.underlying34 rfl (by kernel_rfl) (.tmp .nil)))) rfl ?_
      exact ⟨by first | rfl | (simp [errW_none, errW_some] <;> rfl) | (simp only [← hji7]; first | rfl | (simp [errW_none, errW_some] <;> rfl)) | (simp [*, errW_none, errW_some] <;> rfl), by repeat (first | (with_reducible first | exact HB.out | apply below_alloc | apply pw_below_drewN | apply below_drew1 | refine below_set ?_ GE139.out | refine below_set ?_ GE140.out | refine below_set ?_ GE141.out | refine below_set ?_ GE148.out | refine below_set ?_ GE149.out) | exact HB.out)⟩
     ·rw [if_neg c9] at H
      exact absurd H (by simp)
    ·rw [if_neg c8] at H
     exact absurd H (by simp)
  ·rw [if_neg c4] at H
   exact absurd H (by simp)
 ·rw [if_neg c3] at H
  exact absurd H (by simp)
end Go.Proofs.Ythohhdcngdmbeaa.PW
end

section
namespace Go.Proofs.Ythohhdcngdmbeaa.PW
open Go.RowKit Go.Proofs.YthohhdcngdmbeaaW.PrintWords Go.Proofs.YthohhdcngdmbeaaW.PrintLast Go.Proofs.YthohhdcngdmbeaaW.PrintMore
attribute [local go_sem] max2_int min2_int max_two min_two max_three min_three max_four min_four
attribute [local go_sem] Go.Proofs.Ythohhdcngdmbeaa.MS.isSome_setCell
set_option linter.unusedVariables false
set_option linter.unusedSimpArgs false
def q_Add.f (a0 : Int) (a1 : Int) : Option (Int) := (q_Hold.f a0).bind fun t151 => ((q_Hold.f a1).bind fun t152 => ((q_Hold.f (wrap64 (t151 + t152))).bind fun t153 => (some t153)))
set_option maxHeartbeats 8000000 in
set_option maxRecDepth 100000 in
theorem q_Add.calls (a0 : Int) (a1 : Int) (r : Int) (w : World) (h : q_Add.f a0 a1 = some r) :
  Calls Try.prog 56 #[.int .i64 a0, .int .i64 a1] w fun e w' => e = .returned (.int .i64 r) ∧ Drawn0 w w' := by
 have H : ((q_Hold.f a0).bind fun t151 => ((q_Hold.f a1).bind fun t152 => ((q_Hold.f (wrap64 (t151 + t152))).bind fun t153 => (some t153)))) = some r := h
 clear h
 replace H := Option.bind_eq_some_iff.mp H
 obtain ⟨t151, A30, H⟩ := H
 replace H : ((q_Hold.f a1).bind fun t152 => ((q_Hold.f (wrap64 (t151 + t152))).bind fun t153 => (some t153))) = some r := H
 have A3 := Aside0.mk A30
 clear A30
 replace H := Option.bind_eq_some_iff.mp H
 obtain ⟨t152, A40, H⟩ := H
 replace H : ((q_Hold.f (wrap64 (t151 + t152))).bind fun t153 => (some t153)) = some r := H
 have A4 := Aside0.mk A40
 clear A40
 replace H := Option.bind_eq_some_iff.mp H
 obtain ⟨t153, A50, H⟩ := H
 replace H : (some t153) = some r := H
 have A5 := Aside0.mk A50
 clear A50
 obtain rfl := Option.some.inj H
 go_enter Try.func56, Try.ntmps56
 go_wp2_with (first | ((with_reducible refine gate_callee (f := 57) rfl ?_); refine goesL_ (some 6) rfl rfl Try.func57 (by kernel_rfl) rfl #[.int .i64 a0] rfl (by (try simp only [List.map_toArray, List.map_cons, List.map_nil]); first | done | rfl | (simp only [List.length_drop, List.length_take]; rfl)) ?_; (with_reducible refine (q_Hold.calls a0 t151 _ A3.out).mono ?_); rintro e w' ⟨rfl, ⟨nd, rfl⟩⟩; refine ⟨_, rfl, ?_⟩) | ((with_reducible refine gate_callee (f := 57) rfl ?_); refine goesL_ (some 8) rfl rfl Try.func57 (by kernel_rfl) rfl #[.int .i64 a1] rfl (by (try simp only [List.map_toArray, List.map_cons, List.map_nil]); first | done | rfl | (simp only [List.length_drop, List.length_take]; rfl)) ?_; (with_reducible refine (q_Hold.calls a1 t152 _ A4.out).mono ?_); rintro e w' ⟨rfl, ⟨nd, rfl⟩⟩; refine ⟨_, rfl, ?_⟩) | ((with_reducible refine gate_callee (f := 57) rfl ?_); refine goesL_ (some 10) rfl rfl Try.func57 (by kernel_rfl) rfl #[.int .i64 (wrap64 (t151 + t152))] rfl (by (try simp only [List.map_toArray, List.map_cons, List.map_nil]); first | done | rfl | (simp only [List.length_drop, List.length_take]; rfl)) ?_; (with_reducible refine (q_Hold.calls (wrap64 (t151 + t152)) t153 _ A5.out).mono ?_); rintro e w' ⟨rfl, ⟨nd, rfl⟩⟩; refine ⟨_, rfl, ?_⟩))
 go_ret
 exact ⟨by first | rfl | (simp; done) | (simp [*]; done), by repeat (first | exact Drawn0.refl _ | apply Drawn0.step)⟩
def arc_Length.l0 : Nat → Int → Int → Int → Bool → List (S34) → Option (Int)
 | 0, _, _, _, _, _ => none
 | k + 1, x3, x9, x10, x155000, x155001 => if x10 < x9 then ((arc_Side.f k x155000 x155001 x10).bind fun bt156 => ((q_Add.f x3 bt156.2.2.2.2).bind fun t163 => (arc_Length.l0 k t163 x9 (wrap64 (x10 + 1)) x155000 x155001))) else (some x3)
def arc_Length.f (k : Nat) (a0_0 : Bool) (l0_1 : List (S34)) : Option (Int) := (arc_Sides.f a0_0 l0_1).bind fun t155 => (arc_Length.l0 k 0 t155 0 a0_0 l0_1)
theorem arc_Length.mono_l : ∀ k, (∀ y0 y1 y2 y3 y4, LeO (arc_Length.l0 k y0 y1 y2 y3 y4) (arc_Length.l0 (k + 1) y0 y1 y2 y3 y4))
 | 0 => fun _ _ _ _ _ r h => by simp [arc_Length.l0] at h
 | k + 1 => by
  have ih0 := arc_Length.mono_l k
  ·intro y0 y1 y2 y3 y4
   unfold arc_Length.l0
   repeat' first
   | (with_reducible exact ih0 _ _ _ _ _)
   | (with_reducible exact arc_Side.mono _ _ _ _)
   | (with_reducible exact LeO.refl _)
   | (with_reducible exact LeO.none _)
   | (with_reducible refine LeO.ite ?_ ?_)
   | (with_reducible refine LeO.bind ?_ (fun _ => ?_))
   | exact ih0 _ _ _ _ _
   | exact arc_Side.mono _ _ _ _
   | exact LeO.none _
   | refine LeO.ite ?_ ?_
   | refine LeO.bind ?_ (fun _ => ?_)
theorem arc_Length.mono : ∀ a0 a1 k, LeO (arc_Length.f k a0 a1) (arc_Length.f (k + 1) a0 a1) := by
 intro a0 a1 k
 have ih0 := arc_Length.mono_l k
 unfold arc_Length.f
 repeat' first
   | (with_reducible exact ih0 _ _ _ _ _)
   | (with_reducible exact arc_Side.mono _ _ _ _)
   | (with_reducible exact LeO.refl _)
   | (with_reducible exact LeO.none _)
   | (with_reducible refine LeO.ite ?_ ?_)
   | (with_reducible refine LeO.bind ?_ (fun _ => ?_))
   | exact ih0 _ _ _ _ _
   | exact arc_Side.mono _ _ _ _
   | exact LeO.none _
   | refine LeO.ite ?_ ?_
   | refine LeO.bind ?_ (fun _ => ?_)
set_option maxHeartbeats 8000000 in
set_option maxRecDepth 100000 in
theorem arc_Length.calls (k : Nat) (a0_0 : Bool) (A0_1 : Option Addr) (c0_1 : Nat) (l0_1 : List (S34)) (r : Int) (w : World) (hr0_1 : Kd.C k34 w A0_1 l0_1.length l0_1) (hc0_1 : l0_1.length ≤ c0_1) (h : arc_Length.f k a0_0 l0_1 = some r) :
  Calls Try.prog 23 #[.agg #[.bool a0_0, .slice A0_1 l0_1.length c0_1]] w fun e w' => e = .returned (.int .i64 r) ∧ Below w.heap.size w w' := by
 have hu39 := Try.underlying39
 have hu34 := Try.underlying34
 have HR0_1 := Aside0.mk hr0_1
 have HC0_1 := Aside0.mk hc0_1
 clear hr0_1 hc0_1
 have HB := Aside0.mk (Below.refl w.heap.size w)
 have H : ((arc_Sides.f a0_0 l0_1).bind fun t155 => (arc_Length.l0 k 0 t155 0 a0_0 l0_1)) = some r := h
 clear h
 replace H := Option.bind_eq_some_iff.mp H
 obtain ⟨t155, A20, H⟩ := H
 replace H : (arc_Length.l0 k 0 t155 0 a0_0 l0_1) = some r := H
 have A2 := Aside0.mk A20
 clear A20
 have H' := Aside0.mk H
 clear H
 go_enter Try.func23, Try.ntmps23
 go_wp2_with (first | ((with_reducible refine gate_dst (N := 1) rfl ?_); refine box_event ?hg (N := 1) ?hd (cs := #[.bool a0_0, .slice A0_1 l0_1.length c0_1]) (t := 39) ?hr ?_; (case hd => rfl); (case hg => rfl); (case hr => first | (go_simp; done) | (go_simp; rfl)); intro gb154 hg w3 hbox hb; have n0_ := Aside0.mk (below_step (by repeat (first | (with_reducible first | exact HB.out | apply below_alloc | apply pw_below_drewN | apply below_drew1) | exact HB.out)) hb); have n1_ := Aside0.mk (hbox); have n2_ := Aside0.mk ((by rw [hg]; exact (below_size (by repeat (first | (with_reducible first | exact HB.out | apply below_alloc | apply pw_below_drewN | apply below_drew1) | exact HB.out))) : w.heap.size ≤ gb154)); have n3_ := Aside0.mk ((by rw [hg]; exact (below_size (by repeat (first | (with_reducible first | exact HB.out | apply below_alloc | apply pw_below_drewN | apply below_drew1) | exact HB.out))) : w.heap.size ≤ gb154)); clear HB; have HB := n0_; have BK154 := n1_; have GW154 := n2_; have GE154 := n3_; clear n0_ n1_ n2_ n3_; clear hb hbox hg; have hcz4_0 : w3.cell? ⟨gb154, 0, none⟩ = some (.bool a0_0) := (blk_cell BK154.out 0).trans rfl; have hcz4_1 : w3.cell? ⟨gb154, 1, none⟩ = some (.slice A0_1 l0_1.length c0_1) := (blk_cell BK154.out 1).trans rfl; have hfz4_0 := blk_frozen BK154.out 0; have hfz4_1 := blk_frozen BK154.out 1) | ((with_reducible refine gate_callee (f := 26) rfl ?_); refine goesL_ (some 9) rfl rfl Try.func26 (by kernel_rfl) rfl #[.agg #[.bool a0_0, .slice A0_1 l0_1.length c0_1]] rfl (by (try simp only [List.map_toArray, List.map_cons, List.map_nil]); first | done | rfl | (simp only [List.length_drop, List.length_take]; rfl)) ?_; (with_reducible refine (arc_Sides.calls a0_0 _ _ l0_1 t155 _ ?side1 ?side2 A2.out).mono ?_); (case side1 => repeat (first | exact (Kd.C_below HR0_1.out HB.out) | (with_reducible refine Kd.C_alloc ?_ _) | (with_reducible refine Kd.C_drewN ?_ _) | (with_reducible refine Kd.C_drew ?_))); (case side2 => exact HC0_1.out); rintro e w5 ⟨rfl, hb⟩; refine ⟨_, rfl, ?_⟩; have n0_ := Aside0.mk (blk_below (g := gb154) (o := .cells #[.bool a0_0, .slice A0_1 l0_1.length c0_1] 39 (0, 0)) (by (with_reducible repeat (first | refine blk_drewN ?_ _ | refine blk_drew ?_ | refine blk_alloc ?_ _)); exact BK154.out) hb); have n1_ := Aside0.mk (below_step (by repeat (first | (with_reducible first | exact HB.out | apply below_alloc | apply pw_below_drewN | apply below_drew1 | refine below_set ?_ GE154.out) | exact HB.out)) hb); clear BK154; clear HB; have BK154 := n0_; have HB := n1_; clear n0_ n1_; (try clear hb); (try clear hb2); (try clear hk); (try clear hi)))
 go_loopg [3, 10] k (fun kq v3 v10 w' => ∃ (x3_1 : Int) (x10_1 : Int), v3 = .int .i64 x3_1 ∧ v10 = .int .i64 x10_1 ∧ Aside0 (arc_Length.l0 kq x3_1 t155 x10_1 a0_0 l0_1 = some r) ∧ Aside0 (kq ≤ k) ∧ Aside0 (w'.heap[gb154]? = some (.cells #[.bool a0_0, (.slice A0_1 l0_1.length c0_1)] 39 (0, 0))) ∧ Aside0 (Below w.heap.size w w'))
 case atStart => exact ⟨(0), (0), (by first | rfl | (simp; done) | (simp [*]; done)), (by first | rfl | (simp; done) | (simp [*]; done)), H', ⟨Nat.le_refl _⟩, ⟨by (with_reducible repeat (first | refine blk_drewN ?_ _ | refine blk_drew ?_ | refine blk_alloc ?_ _)); exact BK154.out⟩, ⟨by repeat (first | (with_reducible first | exact HB.out | apply below_alloc | apply pw_below_drewN | apply below_drew1 | refine below_set ?_ GE154.out) | exact HB.out)⟩⟩
 case round =>
  clear H'
  try clear c2
  try clear p2
  try clear hcz4_0
  try clear hcz4_1
  try clear hfz4_0
  try clear hfz4_1
  obtain ⟨x3_1, x10_1, rfl, rfl, HA, HK1, BK154, HB⟩ := hrel
  cases gk with
  | zero => exact absurd HA.out (by simp [arc_Length.l0])
  | succ k1 =>
   have H := HA.out
   clear HA
   simp only [arc_Length.l0] at H
   by_cases c6 : x10_1 < t155
   ·rw [if_pos c6] at H
    have c6b0 : decide (x10_1 < t155) = true := decide_eq_true c6
    clear c6
    replace H := Option.bind_eq_some_iff.mp H
    obtain ⟨⟨t156, t157, t158, t159, t160⟩, A70, H⟩ := H
    replace H : ((q_Add.f x3_1 t160).bind fun t163 => (arc_Length.l0 k1 t163 t155 (wrap64 (x10_1 + 1)) a0_0 l0_1)) = some r := H
    have A7 := Aside0.mk A70
    clear A70
    replace H := Option.bind_eq_some_iff.mp H
    obtain ⟨t163, A80, H⟩ := H
    replace H : (arc_Length.l0 k1 t163 t155 (wrap64 (x10_1 + 1)) a0_0 l0_1) = some r := H
    have A8 := Aside0.mk A80
    clear A80
    have H' := Aside0.mk H
    clear H
    have hcz9_0 : wr.cell? ⟨gb154, 0, none⟩ = some (.bool a0_0) := (blk_cell BK154.out 0).trans rfl
    have hcz9_1 : wr.cell? ⟨gb154, 1, none⟩ = some (.slice A0_1 l0_1.length c0_1) := (blk_cell BK154.out 1).trans rfl
    have hfz9_0 := blk_frozen BK154.out 0
    have hfz9_1 := blk_frozen BK154.out 1
    go_wp2_with (first | ((with_reducible refine gate_callee (f := 55) rfl ?_); refine goesL_ (some 16) rfl rfl Try.func55 (by kernel_rfl) rfl #[.agg #[.bool a0_0, .slice A0_1 l0_1.length c0_1], .int .i64 x10_1] rfl (by (try simp only [List.map_toArray, List.map_cons, List.map_nil]); first | done | rfl | (simp only [List.length_drop, List.length_take]; rfl)) ?_; (with_reducible refine (arc_Side.calls k1 a0_0 _ _ l0_1 x10_1 t156 t157 t158 t159 t160 _ ?side1 ?side2 A7.out).mono ?_); (case side1 => repeat (first | exact (Kd.C_below HR0_1.out HB.out) | (with_reducible refine Kd.C_alloc ?_ _) | (with_reducible refine Kd.C_drewN ?_ _) | (with_reducible refine Kd.C_drew ?_))); (case side2 => exact HC0_1.out); rintro e w10 ⟨rfl, hb⟩; refine ⟨_, rfl, ?_⟩; have n0_ := Aside0.mk (blk_below (g := gb154) (o := .cells #[.bool a0_0, .slice A0_1 l0_1.length c0_1] 39 (0, 0)) (by (with_reducible repeat (first | refine blk_drewN ?_ _ | refine blk_drew ?_ | refine blk_alloc ?_ _)); exact BK154.out) hb); have n1_ := Aside0.mk (below_step (by repeat (first | (with_reducible first | exact HB.out | apply below_alloc | apply pw_below_drewN | apply below_drew1 | refine below_set ?_ GE154.out) | exact HB.out)) hb); clear BK154; clear HB; have BK154 := n0_; have HB := n1_; clear n0_ n1_; (try clear hb); (try clear hb2); (try clear hk); (try clear hi)) | ((with_reducible refine gate_dst (N := 5) rfl ?_); refine box_event ?hg (N := 5) ?hd (cs := #[.int .i64 0, .int .i64 0]) (t := 34) ?hr ?_; (case hd => rfl); (case hg => rfl); (case hr => first | (go_simp; done) | (go_simp; rfl)); intro gb161 hg w11 hbox hb; have n0_ := Aside0.mk (blk_below (g := gb154) (o := .cells #[.bool a0_0, .slice A0_1 l0_1.length c0_1] 39 (0, 0)) (by (with_reducible repeat (first | refine blk_drewN ?_ _ | refine blk_drew ?_ | refine blk_alloc ?_ _)); exact BK154.out) hb); have n1_ := Aside0.mk (below_step (by repeat (first | (with_reducible first | exact HB.out | apply below_alloc | apply pw_below_drewN | apply below_drew1 | refine below_set ?_ GE154.out) | exact HB.out)) hb); have n2_ := Aside0.mk (hbox); have n3_ := Aside0.mk ((by rw [hg]; exact (below_size (by repeat (first | (with_reducible first | exact HB.out | apply below_alloc | apply pw_below_drewN | apply below_drew1 | refine below_set ?_ GE154.out) | exact HB.out))) : w.heap.size ≤ gb161)); have n4_ := Aside0.mk ((by rw [hg]; exact (below_size (by repeat (first | (with_reducible first | exact HB.out | apply below_alloc | apply pw_below_drewN | apply below_drew1 | refine below_set ?_ GE154.out) | exact HB.out))) : w.heap.size ≤ gb161)); have n5_ := Aside0.mk ((by rw [hg]; exact Nat.ne_of_lt (blk_lt (g := gb154) (o := .cells #[.bool a0_0, .slice A0_1 l0_1.length c0_1] 39 (0, 0)) (by (with_reducible repeat (first | refine blk_drewN ?_ _ | refine blk_drew ?_ | refine blk_alloc ?_ _)); exact BK154.out)) : gb154 ≠ gb161)); have n6_ := Aside0.mk ((by rw [hg]; exact Nat.ne_of_gt (blk_lt (g := gb154) (o := .cells #[.bool a0_0, .slice A0_1 l0_1.length c0_1] 39 (0, 0)) (by (with_reducible repeat (first | refine blk_drewN ?_ _ | refine blk_drew ?_ | refine blk_alloc ?_ _)); exact BK154.out)) : gb161 ≠ gb154)); clear BK154; clear HB; have BK154 := n0_; have HB := n1_; have BK161 := n2_; have GW161 := n3_; have GE161 := n4_; have NB154_161 := n5_; have NB161_154 := n6_; clear n0_ n1_ n2_ n3_ n4_ n5_ n6_; clear hb hbox hg) | ((with_reducible refine gate_dst (N := 6) rfl ?_); refine box_event ?hg (N := 6) ?hd (cs := #[.int .i64 0, .int .i64 0]) (t := 34) ?hr ?_; (case hd => rfl); (case hg => rfl); (case hr => first | (go_simp; done) | (go_simp; rfl)); intro gb162 hg w12 hbox hb; have n0_ := Aside0.mk (blk_below (g := gb154) (o := .cells #[.bool a0_0, .slice A0_1 l0_1.length c0_1] 39 (0, 0)) (by (with_reducible repeat (first | refine blk_drewN ?_ _ | refine blk_drew ?_ | refine blk_alloc ?_ _)); exact BK154.out) hb); have n1_ := Aside0.mk (blk_below (g := gb161) (o := .cells #[.int .i64 0, .int .i64 0] 34 (0, 0)) (by (with_reducible repeat (first | refine blk_drewN ?_ _ | refine blk_drew ?_ | refine blk_alloc ?_ _)); exact BK161.out) hb); have n2_ := Aside0.mk (below_step (by repeat (first | (with_reducible first | exact HB.out | apply below_alloc | apply pw_below_drewN | apply below_drew1 | refine below_set ?_ GE154.out | refine below_set ?_ GE161.out) | exact HB.out)) hb); have n3_ := Aside0.mk (hbox); have n4_ := Aside0.mk ((by rw [hg]; exact (below_size (by repeat (first | (with_reducible first | exact HB.out | apply below_alloc | apply pw_below_drewN | apply below_drew1 | refine below_set ?_ GE154.out | refine below_set ?_ GE161.out) | exact HB.out))) : w.heap.size ≤ gb162)); have n5_ := Aside0.mk ((by rw [hg]; exact (below_size (by repeat (first | (with_reducible first | exact HB.out | apply below_alloc | apply pw_below_drewN | apply below_drew1 | refine below_set ?_ GE154.out | refine below_set ?_ GE161.out) | exact HB.out))) : w.heap.size ≤ gb162)); have n6_ := Aside0.mk ((by rw [hg]; exact Nat.ne_of_lt (blk_lt (g := gb154) (o := .cells #[.bool a0_0, .slice A0_1 l0_1.length c0_1] 39 (0, 0)) (by (with_reducible repeat (first | refine blk_drewN ?_ _ | refine blk_drew ?_ | refine blk_alloc ?_ _)); exact BK154.out)) : gb154 ≠ gb162)); have n7_ := Aside0.mk ((by rw [hg]; exact Nat.ne_of_gt (blk_lt (g := gb154) (o := .cells #[.bool a0_0, .slice A0_1 l0_1.length c0_1] 39 (0, 0)) (by (with_reducible repeat (first | refine blk_drewN ?_ _ | refine blk_drew ?_ | refine blk_alloc ?_ _)); exact BK154.out)) : gb162 ≠ gb154)); have n8_ := Aside0.mk ((by rw [hg]; exact Nat.ne_of_lt (blk_lt (g := gb161) (o := .cells #[.int .i64 0, .int .i64 0] 34 (0, 0)) (by (with_reducible repeat (first | refine blk_drewN ?_ _ | refine blk_drew ?_ | refine blk_alloc ?_ _)); exact BK161.out)) : gb161 ≠ gb162)); have n9_ := Aside0.mk ((by rw [hg]; exact Nat.ne_of_gt (blk_lt (g := gb161) (o := .cells #[.int .i64 0, .int .i64 0] 34 (0, 0)) (by (with_reducible repeat (first | refine blk_drewN ?_ _ | refine blk_drew ?_ | refine blk_alloc ?_ _)); exact BK161.out)) : gb162 ≠ gb161)); clear BK154; clear BK161; clear HB; have BK154 := n0_; have BK161 := n1_; have HB := n2_; have BK162 := n3_; have GW162 := n4_; have GE162 := n5_; have NB154_162 := n6_; have NB162_154 := n7_; have NB161_162 := n8_; have NB162_161 := n9_; clear n0_ n1_ n2_ n3_ n4_ n5_ n6_ n7_ n8_ n9_; clear hb hbox hg; have hnb13 := NB161_154.out; have hnc13 := NB154_161.out; have hnb14 := NB161_162.out; have hnc14 := NB162_161.out; have hcz15_0 : w12.cell? ⟨gb161, 0, none⟩ = some (.int .i64 0) := (blk_cell BK161.out 0).trans rfl; have hcz15_1 : w12.cell? ⟨gb161, 1, none⟩ = some (.int .i64 0) := (blk_cell BK161.out 1).trans rfl; have hfz15_0 := blk_frozen BK161.out 0; have hfz15_1 := blk_frozen BK161.out 1; have hnb16 := NB162_154.out; have hnc16 := NB154_162.out; have hcz17_0 : w12.cell? ⟨gb162, 0, none⟩ = some (.int .i64 0) := (blk_cell BK162.out 0).trans rfl; have hcz17_1 : w12.cell? ⟨gb162, 1, none⟩ = some (.int .i64 0) := (blk_cell BK162.out 1).trans rfl; have hfz17_0 := blk_frozen BK162.out 0; have hfz17_1 := blk_frozen BK162.out 1) | ((with_reducible refine gate_callee (f := 56) rfl ?_); refine goesL_ (some 22) rfl rfl Try.func56 (by kernel_rfl) rfl #[.int .i64 x3_1, .int .i64 t160] rfl (by (try simp only [List.map_toArray, List.map_cons, List.map_nil]); first | done | rfl | (simp only [List.length_drop, List.length_take]; rfl)) ?_; (with_reducible refine (q_Add.calls x3_1 t160 t163 _ A8.out).mono ?_); rintro e w' ⟨rfl, ⟨nd, rfl⟩⟩; refine ⟨_, rfl, ?_⟩))
    go_roundg k1
    case measure => have := HK1.out; omega
    case rel => exact ⟨(t163), (wrap64 (x10_1 + 1)), (by first | rfl | (simp; done) | (simp [*]; done)), (by first | rfl | (simp; done) | (simp [*]; done)), H', ⟨by have := HK1.out; omega⟩, ⟨by (with_reducible repeat (first | refine blk_drewN ?_ _ | refine blk_drew ?_ | refine blk_alloc ?_ _)); refine blk_far ?_ NB154_162.out _; (with_reducible repeat (first | refine blk_drewN ?_ _ | refine blk_drew ?_ | refine blk_alloc ?_ _)); refine blk_far ?_ NB154_162.out _; (with_reducible repeat (first | refine blk_drewN ?_ _ | refine blk_drew ?_ | refine blk_alloc ?_ _)); refine blk_far ?_ NB154_161.out _; (with_reducible repeat (first | refine blk_drewN ?_ _ | refine blk_drew ?_ | refine blk_alloc ?_ _)); refine blk_far ?_ NB154_161.out _; (with_reducible repeat (first | refine blk_drewN ?_ _ | refine blk_drew ?_ | refine blk_alloc ?_ _)); exact BK154.out⟩, ⟨by repeat (first | (with_reducible first | exact HB.out | apply below_alloc | apply pw_below_drewN | apply below_drew1 | refine below_set ?_ GE154.out | refine below_set ?_ GE161.out | refine below_set ?_ GE162.out) | exact HB.out)⟩⟩
   ·rw [if_neg c6] at H
    have c6b0 : decide (x10_1 < t155) = false := decide_eq_false c6
    clear c6
    obtain rfl := Option.some.inj H
    go_wp2
    go_ret
    exact ⟨by first | rfl | (simp [errW_none, errW_some] <;> rfl) | (simp [*, errW_none, errW_some] <;> rfl), by repeat (first | (with_reducible first | exact HB.out | apply below_alloc | apply pw_below_drewN | apply below_drew1 | refine below_set ?_ GE154.out) | exact HB.out)⟩
end Go.Proofs.Ythohhdcngdmbeaa.PW
end

section
namespace Go.Proofs.Ythohhdcngdmbeaa.PW
open Go.RowKit Go.Proofs.YthohhdcngdmbeaaW.PrintWords Go.Proofs.YthohhdcngdmbeaaW.PrintLast Go.Proofs.YthohhdcngdmbeaaW.PrintMore
attribute [local go_sem] max2_int min2_int max_two min_two max_three min_three max_four min_four
attribute [local go_sem] Go.Proofs.Ythohhdcngdmbeaa.MS.isSome_setCell
set_option linter.unusedVariables false
set_option linter.unusedSimpArgs false
def q_down.j0 : Nat → Int → Int → Bool → Option (Int)
 | 0, _, _, _ => none
 | k + 1, x5, x6, x15 => if x15 = true then (some (-9223372036854775808)) else (if x5 > 0 then (some 9223372036854775807) else (if x5 = 0 then (if (x6 / 9223372036854775808) = 0 then (some (wrap64 (x6))) else (some 9223372036854775807)) else (some (wrap64 (x6)))))
def q_down.f (k : Nat) (a0 : Int) (a1 : Int) : Option (Int) := if ((wrap64 (a0)) / 65536) < (-1) then (q_down.j0 k ((wrap64 (a0)) / 65536) (Go.bits .or .u64 (IntKind.u64.wrap (a0 * 281474976710656)) (a1 / 65536)) true) else (if ((wrap64 (a0)) / 65536) = (-1) then (q_down.j0 k ((wrap64 (a0)) / 65536) (Go.bits .or .u64 (IntKind.u64.wrap (a0 * 281474976710656)) (a1 / 65536)) (((Go.bits .or .u64 (IntKind.u64.wrap (a0 * 281474976710656)) (a1 / 65536)) / 9223372036854775808) == 0)) else (q_down.j0 k ((wrap64 (a0)) / 65536) (Go.bits .or .u64 (IntKind.u64.wrap (a0 * 281474976710656)) (a1 / 65536)) false))
theorem q_down.mono_l : ∀ k, (∀ y0 y1 y2, LeO (q_down.j0 k y0 y1 y2) (q_down.j0 (k + 1) y0 y1 y2))
 | 0 => fun _ _ _ r h => by simp [q_down.j0] at h
 | k + 1 => by
  have ih0 := q_down.mono_l k
  ·intro y0 y1 y2
   unfold q_down.j0
   repeat' first
   | (with_reducible exact ih0 _ _ _)
   | (with_reducible exact LeO.refl _)
   | (with_reducible exact LeO.none _)
   | (with_reducible refine LeO.ite ?_ ?_)
   | (with_reducible refine LeO.bind ?_ (fun _ => ?_))
   | exact ih0 _ _ _
   | exact LeO.none _
   | refine LeO.ite ?_ ?_
   | refine LeO.bind ?_ (fun _ => ?_)
theorem q_down.mono : ∀ a0 a1 k, LeO (q_down.f k a0 a1) (q_down.f (k + 1) a0 a1) := by
 intro a0 a1 k
 have ih0 := q_down.mono_l k
 unfold q_down.f
 repeat' first
   | (with_reducible exact ih0 _ _ _)
   | (with_reducible exact LeO.refl _)
   | (with_reducible exact LeO.none _)
   | (with_reducible refine LeO.ite ?_ ?_)
   | (with_reducible refine LeO.bind ?_ (fun _ => ?_))
   | exact ih0 _ _ _
   | exact LeO.none _
   | refine LeO.ite ?_ ?_
   | refine LeO.bind ?_ (fun _ => ?_)
set_option maxHeartbeats 8000000 in
set_option maxRecDepth 100000 in
theorem q_down.calls (k : Nat) (a0 : Int) (a1 : Int) (r : Int) (w : World) (h : q_down.f k a0 a1 = some r) :
  Calls Try.prog 92 #[.int .u64 a0, .int .u64 a1] w fun e w' => e = .returned (.int .i64 r) ∧ Drawn0 w w' := by
 have H : (if ((wrap64 (a0)) / 65536) < (-1) then (q_down.j0 k ((wrap64 (a0)) / 65536) (Go.bits .or .u64 (IntKind.u64.wrap (a0 * 281474976710656)) (a1 / 65536)) true) else (if ((wrap64 (a0)) / 65536) = (-1) then (q_down.j0 k ((wrap64 (a0)) / 65536) (Go.bits .or .u64 (IntKind.u64.wrap (a0 * 281474976710656)) (a1 / 65536)) (((Go.bits .or .u64 (IntKind.u64.wrap (a0 * 281474976710656)) (a1 / 65536)) / 9223372036854775808) == 0)) else (q_down.j0 k ((wrap64 (a0)) / 65536) (Go.bits .or .u64 (IntKind.u64.wrap (a0 * 281474976710656)) (a1 / 65536)) false))) = some r := h
 clear h
 have HC3 := Aside0.mk H
 clear H
 go_enter Try.func92, Try.ntmps92
 go_upto_region 3 with (fail)
 go_cut [15] (fun v15 wc => ∃ (kq : Nat) (x15_2 : Bool), v15 = .bool x15_2 ∧ Aside0 (q_down.j0 kq ((wrap64 (a0)) / 65536) (Go.bits .or .u64 (IntKind.u64.wrap (a0 * 281474976710656)) (a1 / 65536)) x15_2 = some r) ∧ Aside0 (kq ≤ k) ∧ Drawn0 w wc)
 case first =>
  have H := HC3.out
  clear HC3
  by_cases c4 : ((wrap64 (a0)) / 65536) < (-1)
  ·rw [if_pos c4] at H
   have c4b0 : decide (((wrap64 (a0)) / 65536) < (-1)) = true := decide_eq_true c4
   clear c4
   (first | rw [c4b0] | (simp only [i64_w, i32_w]; rw [c4b0]) | skip)
   have H' := Aside0.mk H
   clear H
   go_wp2
   go_meet
   case rel => exact ⟨_, (true), (by first | rfl | (simp; done) | (simp [*]; done)), H', ⟨by first | omega | exact Nat.le_refl _⟩, by repeat (first | exact Drawn0.refl _ | apply Drawn0.step)⟩
  ·rw [if_neg c4] at H
   have c4b0 : decide (((wrap64 (a0)) / 65536) < (-1)) = false := decide_eq_false c4
   clear c4
   (first | rw [c4b0] | (simp only [i64_w, i32_w]; rw [c4b0]) | skip)
   by_cases c5 : ((wrap64 (a0)) / 65536) = (-1)
   ·rw [if_pos c5] at H
    have c5b0 : (((wrap64 (a0)) / 65536) == (-1)) = true := beq_iff_eq.mpr c5
    have c5b1 : (((wrap64 (a0)) / 65536) != (-1)) = false := bne_eq_false_iff_eq.mpr c5
    clear c5
    have H' := Aside0.mk H
    clear H
    go_wp2
    go_meet
    case rel => exact ⟨_, ((((Go.bits .or .u64 (IntKind.u64.wrap (a0 * 281474976710656)) (a1 / 65536)) / 9223372036854775808) == 0)), (by first | rfl | (simp; done) | (simp [*]; done)), H', ⟨by first | omega | exact Nat.le_refl _⟩, by repeat (first | exact Drawn0.refl _ | apply Drawn0.step)⟩
   ·rw [if_neg c5] at H
    have c5b0 : (((wrap64 (a0)) / 65536) == (-1)) = false := beq_eq_false_iff_ne.mpr c5
    have c5b1 : (((wrap64 (a0)) / 65536) != (-1)) = true := bne_iff_ne.mpr c5
    have H' := Aside0.mk H
    clear H
    go_wp2
    go_meet
    case rel => exact ⟨_, (false), (by first | rfl | (simp; done) | (simp [*]; done)), H', ⟨by first | omega | exact Nat.le_refl _⟩, by repeat (first | exact Drawn0.refl _ | apply Drawn0.step)⟩
 case rest =>
  clear HC3
  try clear p2
  try clear c4
  try clear c4b0
  try clear c5
  try clear c5b0
  try clear c5b1
  obtain ⟨kq, x15_2, rfl, HA, HJ2, ⟨mc2, rfl⟩⟩ := hcut
  cases kq with
  | zero => exact absurd HA.out (by simp [q_down.j0])
  | succ kj2 =>
   have H := HA.out
   clear HA
   simp only [q_down.j0] at H
   by_cases c6 : x15_2 = true
   ·subst c6
    have H1 : (some (-9223372036854775808)) = some r := by rw [if_pos rfl] at H; exact H
    clear H
    have H := H1
    clear H1
    obtain rfl := Option.some.inj H
    go_wp2
    go_ret
    exact ⟨by first | rfl | (simp; done) | (simp [*]; done), by repeat (first | exact Drawn0.refl _ | apply Drawn0.step)⟩
   ·replace c6 := Bool.eq_false_iff.mpr c6
    subst c6
    have H1 : (if ((wrap64 (a0)) / 65536) > 0 then (some 9223372036854775807) else (if ((wrap64 (a0)) / 65536) = 0 then (if ((Go.bits .or .u64 (IntKind.u64.wrap (a0 * 281474976710656)) (a1 / 65536)) / 9223372036854775808) = 0 then (some (wrap64 ((Go.bits .or .u64 (IntKind.u64.wrap (a0 * 281474976710656)) (a1 / 65536))))) else (some 9223372036854775807)) else (some (wrap64 ((Go.bits .or .u64 (IntKind.u64.wrap (a0 * 281474976710656)) (a1 / 65536))))))) = some r := by rw [if_neg (show ¬ (false = true) by decide)] at H; exact H
    clear H
    have H := H1
    clear H1
    by_cases c7 : ((wrap64 (a0)) / 65536) > 0
    ·rw [if_pos c7] at H
     have c7b0 : decide (0 < ((wrap64 (a0)) / 65536)) = true := decide_eq_true c7
     clear c7
     obtain rfl := Option.some.inj H
     go_wp2
     go_ret
     exact ⟨by first | rfl | (simp; done) | (simp [*]; done), by repeat (first | exact Drawn0.refl _ | apply Drawn0.step)⟩
    ·rw [if_neg c7] at H
     have c7b0 : decide (0 < ((wrap64 (a0)) / 65536)) = false := decide_eq_false c7
     clear c7
     by_cases c8 : ((wrap64 (a0)) / 65536) = 0
     ·rw [if_pos c8] at H
      have c8b0 : (((wrap64 (a0)) / 65536) == 0) = true := beq_iff_eq.mpr c8
      have c8b1 : (((wrap64 (a0)) / 65536) != 0) = false := bne_eq_false_iff_eq.mpr c8
      clear c8
      by_cases c9 : ((Go.bits .or .u64 (IntKind.u64.wrap (a0 * 281474976710656)) (a1 / 65536)) / 9223372036854775808) = 0
      ·rw [if_pos c9] at H
       have c9b0 : (((Go.bits .or .u64 (IntKind.u64.wrap (a0 * 281474976710656)) (a1 / 65536)) / 9223372036854775808) == 0) = true := beq_iff_eq.mpr c9
       have c9b1 : (((Go.bits .or .u64 (IntKind.u64.wrap (a0 * 281474976710656)) (a1 / 65536)) / 9223372036854775808) != 0) = false := bne_eq_false_iff_eq.mpr c9
       clear c9
       obtain rfl := Option.some.inj H
       go_wp2
       go_ret
       exact ⟨by first | rfl | (simp; done) | (simp [*]; done), by repeat (first | exact Drawn0.refl _ | apply Drawn0.step)⟩
      ·rw [if_neg c9] at H
       have c9b0 : (((Go.bits .or .u64 (IntKind.u64.wrap (a0 * 281474976710656)) (a1 / 65536)) / 9223372036854775808) == 0) = false := beq_eq_false_iff_ne.mpr c9
       have c9b1 : (((Go.bits .or .u64 (IntKind.u64.wrap (a0 * 281474976710656)) (a1 / 65536)) / 9223372036854775808) != 0) = true := bne_iff_ne.mpr c9
       obtain rfl := Option.some.inj H
       go_wp2
       go_ret
       exact ⟨by first | rfl | (simp; done) | (simp [*]; done), by repeat (first | exact Drawn0.refl _ | apply Drawn0.step)⟩
     ·rw [if_neg c8] at H
      have c8b0 : (((wrap64 (a0)) / 65536) == 0) = false := beq_eq_false_iff_ne.mpr c8
      have c8b1 : (((wrap64 (a0)) / 65536) != 0) = true := bne_iff_ne.mpr c8
      obtain rfl := Option.some.inj H
      go_wp2
      go_ret
      exact ⟨by first | rfl | (simp; done) | (simp [*]; done), by repeat (first | exact Drawn0.refl _ | apply Drawn0.step)⟩
def bits_Mul64.f (a0 : Int) (a1 : Int) : Option (Int × Int) := some (IntKind.u64.wrap ((IntKind.u64.wrap ((IntKind.u64.wrap ((a0 / 4294967296) * (a1 / 4294967296))) + ((IntKind.u64.wrap ((IntKind.u64.wrap ((a0 / 4294967296) * (Go.bits .and .u64 a1 4294967295))) + ((IntKind.u64.wrap ((Go.bits .and .u64 a0 4294967295) * (Go.bits .and .u64 a1 4294967295))) / 4294967296))) / 4294967296))) + ((IntKind.u64.wrap ((Go.bits .and .u64 (IntKind.u64.wrap ((IntKind.u64.wrap ((a0 / 4294967296) * (Go.bits .and .u64 a1 4294967295))) + ((IntKind.u64.wrap ((Go.bits .and .u64 a0 4294967295) * (Go.bits .and .u64 a1 4294967295))) / 4294967296))) 4294967295) + (IntKind.u64.wrap ((Go.bits .and .u64 a0 4294967295) * (a1 / 4294967296))))) / 4294967296)), IntKind.u64.wrap (a0 * a1))
set_option maxHeartbeats 8000000 in
set_option maxRecDepth 100000 in
theorem bits_Mul64.calls (a0 : Int) (a1 : Int) (r1 : Int) (r2 : Int) (w : World) (h : bits_Mul64.f a0 a1 = some (r1, r2)) :
  Calls Try.prog 96 #[.int .u64 a0, .int .u64 a1] w fun e w' => e = .returned (.tuple #[.int .u64 r1, .int .u64 r2]) ∧ Drawn0 w w' := by
 have H : (some (IntKind.u64.wrap ((IntKind.u64.wrap ((IntKind.u64.wrap ((a0 / 4294967296) * (a1 / 4294967296))) + ((IntKind.u64.wrap ((IntKind.u64.wrap ((a0 / 4294967296) * (Go.bits .and .u64 a1 4294967295))) + ((IntKind.u64.wrap ((Go.bits .and .u64 a0 4294967295) * (Go.bits .and .u64 a1 4294967295))) / 4294967296))) / 4294967296))) + ((IntKind.u64.wrap ((Go.bits .and .u64 (IntKind.u64.wrap ((IntKind.u64.wrap ((a0 / 4294967296) * (Go.bits .and .u64 a1 4294967295))) + ((IntKind.u64.wrap ((Go.bits .and .u64 a0 4294967295) * (Go.bits .and .u64 a1 4294967295))) / 4294967296))) 4294967295) + (IntKind.u64.wrap ((Go.bits .and .u64 a0 4294967295) * (a1 / 4294967296))))) / 4294967296)), IntKind.u64.wrap (a0 * a1))) = some (r1, r2) := h
 clear h
 simp only [Option.some.injEq, Prod.mk.injEq] at H
 obtain ⟨rfl, rfl⟩ := H
 go_enter Try.func96, Try.ntmps96
 go_wp2
 go_ret2
 exact ⟨by first | rfl | (simp; done) | (simp [*]; done), by repeat (first | exact Drawn0.refl _ | apply Drawn0.step)⟩
def q_product.f (a0 : Int) (a1 : Int) : Option (Int × Int) := (bits_Mul64.f (IntKind.u64.wrap (a0)) (IntKind.u64.wrap (a1))).bind fun bt164 => (if a0 < 0 then (if a1 < 0 then (some (IntKind.u64.wrap ((IntKind.u64.wrap (bt164.1 - (IntKind.u64.wrap (a1)))) - (IntKind.u64.wrap (a0))), bt164.2)) else (some (IntKind.u64.wrap (bt164.1 - (IntKind.u64.wrap (a1))), bt164.2))) else (if a1 < 0 then (some (IntKind.u64.wrap (bt164.1 - (IntKind.u64.wrap (a0))), bt164.2)) else (some (bt164.1, bt164.2))))
set_option maxHeartbeats 8000000 in
set_option maxRecDepth 100000 in
theorem q_product.calls (a0 : Int) (a1 : Int) (r1 : Int) (r2 : Int) (w : World) (h : q_product.f a0 a1 = some (r1, r2)) :
  Calls Try.prog 93 #[.int .i64 a0, .int .i64 a1] w fun e w' => e = .returned (.tuple #[.int .u64 r1, .int .u64 r2]) ∧ Drawn0 w w' := by
 have H : ((bits_Mul64.f (IntKind.u64.wrap (a0)) (IntKind.u64.wrap (a1))).bind fun bt164 => (if a0 < 0 then (if a1 < 0 then (some (IntKind.u64.wrap ((IntKind.u64.wrap (bt164.1 - (IntKind.u64.wrap (a1)))) - (IntKind.u64.wrap (a0))), bt164.2)) else (some (IntKind.u64.wrap (bt164.1 - (IntKind.u64.wrap (a1))), bt164.2))) else (if a1 < 0 then (some (IntKind.u64.wrap (bt164.1 - (IntKind.u64.wrap (a0))), bt164.2)) else (some (bt164.1, bt164.2))))) = some (r1, r2) := h
 clear h
 replace H := Option.bind_eq_some_iff.mp H
 obtain ⟨⟨t164, t165⟩, A30, H⟩ := H
 replace H : (if a0 < 0 then (if a1 < 0 then (some (IntKind.u64.wrap ((IntKind.u64.wrap (t164 - (IntKind.u64.wrap (a1)))) - (IntKind.u64.wrap (a0))), t165)) else (some (IntKind.u64.wrap (t164 - (IntKind.u64.wrap (a1))), t165))) else (if a1 < 0 then (some (IntKind.u64.wrap (t164 - (IntKind.u64.wrap (a0))), t165)) else (some (t164, t165)))) = some (r1, r2) := H
 have A3 := Aside0.mk A30
 clear A30
 by_cases c4 : a0 < 0
 ·rw [if_pos c4] at H
  have c4b0 : decide (a0 < 0) = true := decide_eq_true c4
  clear c4
  by_cases c5 : a1 < 0
  ·rw [if_pos c5] at H
   have c5b0 : decide (a1 < 0) = true := decide_eq_true c5
   clear c5
   simp only [Option.some.injEq, Prod.mk.injEq] at H
   obtain ⟨rfl, rfl⟩ := H
   go_enter Try.func93, Try.ntmps93
   go_wp2_with (first | ((with_reducible refine gate_callee (f := 96) rfl ?_); refine goesL_ (some 13) rfl rfl Try.func96 (by kernel_rfl) rfl #[.int .u64 (IntKind.u64.wrap (a0)), .int .u64 (IntKind.u64.wrap (a1))] rfl (by (try simp only [List.map_toArray, List.map_cons, List.map_nil]); first | done | rfl | (simp only [List.length_drop, List.length_take]; rfl)) ?_; (with_reducible refine (bits_Mul64.calls (IntKind.u64.wrap (a0)) (IntKind.u64.wrap (a1)) t164 t165 _ A3.out).mono ?_); rintro e w' ⟨rfl, ⟨nd, rfl⟩⟩; refine ⟨_, rfl, ?_⟩))
   go_ret2
   exact ⟨by first | rfl | (simp; done) | (simp [*]; done), by repeat (first | exact Drawn0.refl _ | apply Drawn0.step)⟩
  ·rw [if_neg c5] at H
   have c5b0 : decide (a1 < 0) = false := decide_eq_false c5
   clear c5
   simp only [Option.some.injEq, Prod.mk.injEq] at H
   obtain ⟨rfl, rfl⟩ := H
   go_enter Try.func93, Try.ntmps93
   go_wp2_with (first | ((with_reducible refine gate_callee (f := 96) rfl ?_); refine goesL_ (some 13) rfl rfl Try.func96 (by kernel_rfl) rfl #[.int .u64 (IntKind.u64.wrap (a0)), .int .u64 (IntKind.u64.wrap (a1))] rfl (by (try simp only [List.map_toArray, List.map_cons, List.map_nil]); first | done | rfl | (simp only [List.length_drop, List.length_take]; rfl)) ?_; (with_reducible refine (bits_Mul64.calls (IntKind.u64.wrap (a0)) (IntKind.u64.wrap (a1)) t164 t165 _ A3.out).mono ?_); rintro e w' ⟨rfl, ⟨nd, rfl⟩⟩; refine ⟨_, rfl, ?_⟩))
   go_ret2
   exact ⟨by first | rfl | (simp; done) | (simp [*]; done), by repeat (first | exact Drawn0.refl _ | apply Drawn0.step)⟩
 ·rw [if_neg c4] at H
  have c4b0 : decide (a0 < 0) = false := decide_eq_false c4
  clear c4
  by_cases c6 : a1 < 0
  ·rw [if_pos c6] at H
   have c6b0 : decide (a1 < 0) = true := decide_eq_true c6
   clear c6
   simp only [Option.some.injEq, Prod.mk.injEq] at H
   obtain ⟨rfl, rfl⟩ := H
   go_enter Try.func93, Try.ntmps93
   go_wp2_with (first | ((with_reducible refine gate_callee (f := 96) rfl ?_); refine goesL_ (some 13) rfl rfl Try.func96 (by kernel_rfl) rfl #[.int .u64 (IntKind.u64.wrap (a0)), .int .u64 (IntKind.u64.wrap (a1))] rfl (by (try simp only [List.map_toArray, List.map_cons, List.map_nil]); first | done | rfl | (simp only [List.length_drop, List.length_take]; rfl)) ?_; (with_reducible refine (bits_Mul64.calls (IntKind.u64.wrap (a0)) (IntKind.u64.wrap (a1)) t164 t165 _ A3.out).mono ?_); rintro e w' ⟨rfl, ⟨nd, rfl⟩⟩; refine ⟨_, rfl, ?_⟩))
   go_ret2
   exact ⟨by first | rfl | (simp; done) | (simp [*]; done), by repeat (first | exact Drawn0.refl _ | apply Drawn0.step)⟩
  ·rw [if_neg c6] at H
   have c6b0 : decide (a1 < 0) = false := decide_eq_false c6
   clear c6
   simp only [Option.some.injEq, Prod.mk.injEq] at H
   obtain ⟨rfl, rfl⟩ := H
   go_enter Try.func93, Try.ntmps93
   go_wp2_with (first | ((with_reducible refine gate_callee (f := 96) rfl ?_); refine goesL_ (some 13) rfl rfl Try.func96 (by kernel_rfl) rfl #[.int .u64 (IntKind.u64.wrap (a0)), .int .u64 (IntKind.u64.wrap (a1))] rfl (by (try simp only [List.map_toArray, List.map_cons, List.map_nil]); first | done | rfl | (simp only [List.length_drop, List.length_take]; rfl)) ?_; (with_reducible refine (bits_Mul64.calls (IntKind.u64.wrap (a0)) (IntKind.u64.wrap (a1)) t164 t165 _ A3.out).mono ?_); rintro e w' ⟨rfl, ⟨nd, rfl⟩⟩; refine ⟨_, rfl, ?_⟩))
   go_ret2
   exact ⟨by first | rfl | (simp; done) | (simp [*]; done), by repeat (first | exact Drawn0.refl _ | apply Drawn0.step)⟩
end Go.Proofs.Ythohhdcngdmbeaa.PW
end

section
namespace Go.Proofs.Ythohhdcngdmbeaa.PW
open Go.RowKit Go.Proofs.YthohhdcngdmbeaaW.PrintWords Go.Proofs.YthohhdcngdmbeaaW.PrintLast Go.Proofs.YthohhdcngdmbeaaW.PrintMore
attribute [local go_sem] max2_int min2_int max_two min_two max_three min_three max_four min_four
attribute [local go_sem] Go.Proofs.Ythohhdcngdmbeaa.MS.isSome_setCell
set_option linter.unusedVariables false
set_option linter.unusedSimpArgs false
def q_Mul.f (k : Nat) (a0 : Int) (a1 : Int) : Option (Int) := (q_Hold.f a0).bind fun t166 => ((q_Hold.f a1).bind fun t167 => ((q_product.f t166 t167).bind fun bt168 => ((q_down.f k bt168.1 bt168.2).bind fun t170 => ((q_Hold.f t170).bind fun t171 => (some t171)))))
theorem q_Mul.mono : ∀ a0 a1 k, LeO (q_Mul.f k a0 a1) (q_Mul.f (k + 1) a0 a1) := by
 intro a0 a1 k
 unfold q_Mul.f
 repeat' first
   | (with_reducible exact q_down.mono _ _ _)
   | (with_reducible exact LeO.refl _)
   | (with_reducible exact LeO.none _)
   | (with_reducible refine LeO.ite ?_ ?_)
   | (with_reducible refine LeO.bind ?_ (fun _ => ?_))
   | exact q_down.mono _ _ _
   | exact LeO.none _
   | refine LeO.ite ?_ ?_
   | refine LeO.bind ?_ (fun _ => ?_)
set_option maxHeartbeats 8000000 in
set_option maxRecDepth 100000 in
theorem q_Mul.calls (k : Nat) (a0 : Int) (a1 : Int) (r : Int) (w : World) (h : q_Mul.f k a0 a1 = some r) :
  Calls Try.prog 63 #[.int .i64 a0, .int .i64 a1] w fun e w' => e = .returned (.int .i64 r) ∧ Drawn0 w w' := by
 have H : ((q_Hold.f a0).bind fun t166 => ((q_Hold.f a1).bind fun t167 => ((q_product.f t166 t167).bind fun bt168 => ((q_down.f k bt168.1 bt168.2).bind fun t170 => ((q_Hold.f t170).bind fun t171 => (some t171)))))) = some r := h
 clear h
 replace H := Option.bind_eq_some_iff.mp H
 obtain ⟨t166, A30, H⟩ := H
 replace H : ((q_Hold.f a1).bind fun t167 => ((q_product.f t166 t167).bind fun bt168 => ((q_down.f k bt168.1 bt168.2).bind fun t170 => ((q_Hold.f t170).bind fun t171 => (some t171))))) = some r := H
 have A3 := Aside0.mk A30
 clear A30
 replace H := Option.bind_eq_some_iff.mp H
 obtain ⟨t167, A40, H⟩ := H
 replace H : ((q_product.f t166 t167).bind fun bt168 => ((q_down.f k bt168.1 bt168.2).bind fun t170 => ((q_Hold.f t170).bind fun t171 => (some t171)))) = some r := H
 have A4 := Aside0.mk A40
 clear A40
 replace H := Option.bind_eq_some_iff.mp H
 obtain ⟨⟨t168, t169⟩, A50, H⟩ := H
 replace H : ((q_down.f k t168 t169).bind fun t170 => ((q_Hold.f t170).bind fun t171 => (some t171))) = some r := H
 have A5 := Aside0.mk A50
 clear A50
 replace H := Option.bind_eq_some_iff.mp H
 obtain ⟨t170, A60, H⟩ := H
 replace H : ((q_Hold.f t170).bind fun t171 => (some t171)) = some r := H
 have A6 := Aside0.mk A60
 clear A60
 replace H := Option.bind_eq_some_iff.mp H
 obtain ⟨t171, A70, H⟩ := H
 replace H : (some t171) = some r := H
 have A7 := Aside0.mk A70
 clear A70
 obtain rfl := Option.some.inj H
 go_enter Try.func63, Try.ntmps63
 go_wp2_with (first | ((with_reducible refine gate_callee (f := 57) rfl ?_); refine goesL_ (some 6) rfl rfl Try.func57 (by kernel_rfl) rfl #[.int .i64 a0] rfl (by (try simp only [List.map_toArray, List.map_cons, List.map_nil]); first | done | rfl | (simp only [List.length_drop, List.length_take]; rfl)) ?_; (with_reducible refine (q_Hold.calls a0 t166 _ A3.out).mono ?_); rintro e w' ⟨rfl, ⟨nd, rfl⟩⟩; refine ⟨_, rfl, ?_⟩) | ((with_reducible refine gate_callee (f := 57) rfl ?_); refine goesL_ (some 8) rfl rfl Try.func57 (by kernel_rfl) rfl #[.int .i64 a1] rfl (by (try simp only [List.map_toArray, List.map_cons, List.map_nil]); first | done | rfl | (simp only [List.length_drop, List.length_take]; rfl)) ?_; (with_reducible refine (q_Hold.calls a1 t167 _ A4.out).mono ?_); rintro e w' ⟨rfl, ⟨nd, rfl⟩⟩; refine ⟨_, rfl, ?_⟩) | ((with_reducible refine gate_callee (f := 93) rfl ?_); refine goesL_ (some 9) rfl rfl Try.func93 (by kernel_rfl) rfl #[.int .i64 t166, .int .i64 t167] rfl (by (try simp only [List.map_toArray, List.map_cons, List.map_nil]); first | done | rfl | (simp only [List.length_drop, List.length_take]; rfl)) ?_; (with_reducible refine (q_product.calls t166 t167 t168 t169 _ A5.out).mono ?_); rintro e w' ⟨rfl, ⟨nd, rfl⟩⟩; refine ⟨_, rfl, ?_⟩) | ((with_reducible refine gate_callee (f := 92) rfl ?_); refine goesL_ (some 12) rfl rfl Try.func92 (by kernel_rfl) rfl #[.int .u64 t168, .int .u64 t169] rfl (by (try simp only [List.map_toArray, List.map_cons, List.map_nil]); first | done | rfl | (simp only [List.length_drop, List.length_take]; rfl)) ?_; (with_reducible refine (q_down.calls k t168 t169 t170 _ A6.out).mono ?_); rintro e w' ⟨rfl, ⟨nd, rfl⟩⟩; refine ⟨_, rfl, ?_⟩) | ((with_reducible refine gate_callee (f := 57) rfl ?_); refine goesL_ (some 13) rfl rfl Try.func57 (by kernel_rfl) rfl #[.int .i64 t170] rfl (by (try simp only [List.map_toArray, List.map_cons, List.map_nil]); first | done | rfl | (simp only [List.length_drop, List.length_take]; rfl)) ?_; (with_reducible refine (q_Hold.calls t170 t171 _ A7.out).mono ?_); rintro e w' ⟨rfl, ⟨nd, rfl⟩⟩; refine ⟨_, rfl, ?_⟩))
 go_ret
 exact ⟨by first | rfl | (simp; done) | (simp [*]; done), by repeat (first | exact Drawn0.refl _ | apply Drawn0.step)⟩
def q_Mid.f (k : Nat) (a0 : Int) (a1 : Int) (a2 : Int) : Option (Int) := (q_Hold.f a0).bind fun t172 => ((q_Add.f a1 (wrap64 (-t172))).bind fun t173 => ((q_Mul.f k t173 a2).bind fun t174 => ((q_Add.f t172 t174).bind fun t175 => (some t175))))
theorem q_Mid.mono : ∀ a0 a1 a2 k, LeO (q_Mid.f k a0 a1 a2) (q_Mid.f (k + 1) a0 a1 a2) := by
 intro a0 a1 a2 k
 unfold q_Mid.f
 repeat' first
   | (with_reducible exact q_Mul.mono _ _ _)
   | (with_reducible exact LeO.refl _)
   | (with_reducible exact LeO.none _)
   | (with_reducible refine LeO.ite ?_ ?_)
   | (with_reducible refine LeO.bind ?_ (fun _ => ?_))
   | exact q_Mul.mono _ _ _
   | exact LeO.none _
   | refine LeO.ite ?_ ?_
   | refine LeO.bind ?_ (fun _ => ?_)
set_option maxHeartbeats 8000000 in
set_option maxRecDepth 100000 in
theorem q_Mid.calls (k : Nat) (a0 : Int) (a1 : Int) (a2 : Int) (r : Int) (w : World) (h : q_Mid.f k a0 a1 a2 = some r) :
  Calls Try.prog 48 #[.int .i64 a0, .int .i64 a1, .int .i64 a2] w fun e w' => e = .returned (.int .i64 r) ∧ Drawn0 w w' := by
 have H : ((q_Hold.f a0).bind fun t172 => ((q_Add.f a1 (wrap64 (-t172))).bind fun t173 => ((q_Mul.f k t173 a2).bind fun t174 => ((q_Add.f t172 t174).bind fun t175 => (some t175))))) = some r := h
 clear h
 replace H := Option.bind_eq_some_iff.mp H
 obtain ⟨t172, A40, H⟩ := H
 replace H : ((q_Add.f a1 (wrap64 (-t172))).bind fun t173 => ((q_Mul.f k t173 a2).bind fun t174 => ((q_Add.f t172 t174).bind fun t175 => (some t175)))) = some r := H
 have A4 := Aside0.mk A40
 clear A40
 replace H := Option.bind_eq_some_iff.mp H
 obtain ⟨t173, A50, H⟩ := H
 replace H : ((q_Mul.f k t173 a2).bind fun t174 => ((q_Add.f t172 t174).bind fun t175 => (some t175))) = some r := H
 have A5 := Aside0.mk A50
 clear A50
 replace H := Option.bind_eq_some_iff.mp H
 obtain ⟨t174, A60, H⟩ := H
 replace H : ((q_Add.f t172 t174).bind fun t175 => (some t175)) = some r := H
 have A6 := Aside0.mk A60
 clear A60
 replace H := Option.bind_eq_some_iff.mp H
 obtain ⟨t175, A70, H⟩ := H
 replace H : (some t175) = some r := H
 have A7 := Aside0.mk A70
 clear A70
 obtain rfl := Option.some.inj H
 go_enter Try.func48, Try.ntmps48
 go_wp2_with (first | ((with_reducible refine gate_callee (f := 57) rfl ?_); refine goesL_ (some 8) rfl rfl Try.func57 (by kernel_rfl) rfl #[.int .i64 a0] rfl (by (try simp only [List.map_toArray, List.map_cons, List.map_nil]); first | done | rfl | (simp only [List.length_drop, List.length_take]; rfl)) ?_; (with_reducible refine (q_Hold.calls a0 t172 _ A4.out).mono ?_); rintro e w' ⟨rfl, ⟨nd, rfl⟩⟩; refine ⟨_, rfl, ?_⟩) | ((with_reducible refine gate_callee (f := 56) rfl ?_); refine goesL_ (some 13) rfl rfl Try.func56 (by kernel_rfl) rfl #[.int .i64 a1, .int .i64 (wrap64 (-t172))] rfl (by (try simp only [List.map_toArray, List.map_cons, List.map_nil]); first | done | rfl | (simp only [List.length_drop, List.length_take]; rfl)) ?_; (with_reducible refine (q_Add.calls a1 (wrap64 (-t172)) t173 _ A5.out).mono ?_); rintro e w' ⟨rfl, ⟨nd, rfl⟩⟩; refine ⟨_, rfl, ?_⟩) | ((with_reducible refine gate_callee (f := 63) rfl ?_); refine goesL_ (some 15) rfl rfl Try.func63 (by kernel_rfl) rfl #[.int .i64 t173, .int .i64 a2] rfl (by (try simp only [List.map_toArray, List.map_cons, List.map_nil]); first | done | rfl | (simp only [List.length_drop, List.length_take]; rfl)) ?_; (with_reducible refine (q_Mul.calls k t173 a2 t174 _ A6.out).mono ?_); rintro e w' ⟨rfl, ⟨nd, rfl⟩⟩; refine ⟨_, rfl, ?_⟩) | ((with_reducible refine gate_callee (f := 56) rfl ?_); refine goesL_ (some 16) rfl rfl Try.func56 (by kernel_rfl) rfl #[.int .i64 t172, .int .i64 t174] rfl (by (try simp only [List.map_toArray, List.map_cons, List.map_nil]); first | done | rfl | (simp only [List.length_drop, List.length_take]; rfl)) ?_; (with_reducible refine (q_Add.calls t172 t174 t175 _ A7.out).mono ?_); rintro e w' ⟨rfl, ⟨nd, rfl⟩⟩; refine ⟨_, rfl, ?_⟩))
 go_ret
 exact ⟨by first | rfl | (simp; done) | (simp [*]; done), by repeat (first | exact Drawn0.refl _ | apply Drawn0.step)⟩
def q_Div.f (a0 : Int) (a1 : Int) : Option (Int) := (q_Hold.f a0).bind fun t176 => ((q_Hold.f a1).bind fun t177 => (if t177 = 0 then (some 0) else (if (Int.tmod (wrap64 (t176 * 65536)) t177) = 0 then ((q_Hold.f (wrap64 (Int.tdiv (wrap64 (t176 * 65536)) t177))).bind fun t178 => (some t178)) else (if ((decide ((wrap64 (t176 * 65536)) < 0)) != (decide (t177 < 0))) = true then ((q_Hold.f (wrap64 ((wrap64 (Int.tdiv (wrap64 (t176 * 65536)) t177)) - 1))).bind fun t179 => (some t179)) else ((q_Hold.f (wrap64 (Int.tdiv (wrap64 (t176 * 65536)) t177))).bind fun t180 => (some t180))))))
set_option maxHeartbeats 8000000 in
set_option maxRecDepth 100000 in
theorem q_Div.calls (a0 : Int) (a1 : Int) (r : Int) (w : World) (h : q_Div.f a0 a1 = some r) :
  Calls Try.prog 72 #[.int .i64 a0, .int .i64 a1] w fun e w' => e = .returned (.int .i64 r) ∧ Drawn0 w w' := by
 have H : ((q_Hold.f a0).bind fun t176 => ((q_Hold.f a1).bind fun t177 => (if t177 = 0 then (some 0) else (if (Int.tmod (wrap64 (t176 * 65536)) t177) = 0 then ((q_Hold.f (wrap64 (Int.tdiv (wrap64 (t176 * 65536)) t177))).bind fun t178 => (some t178)) else (if ((decide ((wrap64 (t176 * 65536)) < 0)) != (decide (t177 < 0))) = true then ((q_Hold.f (wrap64 ((wrap64 (Int.tdiv (wrap64 (t176 * 65536)) t177)) - 1))).bind fun t179 => (some t179)) else ((q_Hold.f (wrap64 (Int.tdiv (wrap64 (t176 * 65536)) t177))).bind fun t180 => (some t180))))))) = some r := h
 clear h
 replace H := Option.bind_eq_some_iff.mp H
 obtain ⟨t176, A30, H⟩ := H
 replace H : ((q_Hold.f a1).bind fun t177 => (if t177 = 0 then (some 0) else (if (Int.tmod (wrap64 (t176 * 65536)) t177) = 0 then ((q_Hold.f (wrap64 (Int.tdiv (wrap64 (t176 * 65536)) t177))).bind fun t178 => (some t178)) else (if ((decide ((wrap64 (t176 * 65536)) < 0)) != (decide (t177 < 0))) = true then ((q_Hold.f (wrap64 ((wrap64 (Int.tdiv (wrap64 (t176 * 65536)) t177)) - 1))).bind fun t179 => (some t179)) else ((q_Hold.f (wrap64 (Int.tdiv (wrap64 (t176 * 65536)) t177))).bind fun t180 => (some t180)))))) = some r := H
 have A3 := Aside0.mk A30
 clear A30
 replace H := Option.bind_eq_some_iff.mp H
 obtain ⟨t177, A40, H⟩ := H
 replace H : (if t177 = 0 then (some 0) else (if (Int.tmod (wrap64 (t176 * 65536)) t177) = 0 then ((q_Hold.f (wrap64 (Int.tdiv (wrap64 (t176 * 65536)) t177))).bind fun t178 => (some t178)) else (if ((decide ((wrap64 (t176 * 65536)) < 0)) != (decide (t177 < 0))) = true then ((q_Hold.f (wrap64 ((wrap64 (Int.tdiv (wrap64 (t176 * 65536)) t177)) - 1))).bind fun t179 => (some t179)) else ((q_Hold.f (wrap64 (Int.tdiv (wrap64 (t176 * 65536)) t177))).bind fun t180 => (some t180))))) = some r := H
 have A4 := Aside0.mk A40
 clear A40
 by_cases c5 : t177 = 0
 ·rw [if_pos c5] at H
  have c5b0 : (t177 == 0) = true := beq_iff_eq.mpr c5
  have c5b1 : (t177 != 0) = false := bne_eq_false_iff_eq.mpr c5
  clear c5
  obtain rfl := Option.some.inj H
  go_enter Try.func72, Try.ntmps72
  go_wp2_with (first | ((with_reducible refine gate_callee (f := 57) rfl ?_); refine goesL_ (some 7) rfl rfl Try.func57 (by kernel_rfl) rfl #[.int .i64 a0] rfl (by (try simp only [List.map_toArray, List.map_cons, List.map_nil]); first | done | rfl | (simp only [List.length_drop, List.length_take]; rfl)) ?_; (with_reducible refine (q_Hold.calls a0 t176 _ A3.out).mono ?_); rintro e w' ⟨rfl, ⟨nd, rfl⟩⟩; refine ⟨_, rfl, ?_⟩) | ((with_reducible refine gate_callee (f := 57) rfl ?_); refine goesL_ (some 10) rfl rfl Try.func57 (by kernel_rfl) rfl #[.int .i64 a1] rfl (by (try simp only [List.map_toArray, List.map_cons, List.map_nil]); first | done | rfl | (simp only [List.length_drop, List.length_take]; rfl)) ?_; (with_reducible refine (q_Hold.calls a1 t177 _ A4.out).mono ?_); rintro e w' ⟨rfl, ⟨nd, rfl⟩⟩; refine ⟨_, rfl, ?_⟩))
  go_ret
  exact ⟨by first | rfl | (simp; done) | (simp [*]; done), by repeat (first | exact Drawn0.refl _ | apply Drawn0.step)⟩
 ·rw [if_neg c5] at H
  have c5b0 : (t177 == 0) = false := beq_eq_false_iff_ne.mpr c5
  have c5b1 : (t177 != 0) = true := bne_iff_ne.mpr c5
  by_cases c6 : (Int.tmod (wrap64 (t176 * 65536)) t177) = 0
  ·rw [if_pos c6] at H
   have c6b0 : ((Int.tmod (wrap64 (t176 * 65536)) t177) == 0) = true := beq_iff_eq.mpr c6
   have c6b1 : ((Int.tmod (wrap64 (t176 * 65536)) t177) != 0) = false := bne_eq_false_iff_eq.mpr c6
   clear c6
   replace H := Option.bind_eq_some_iff.mp H
   obtain ⟨t178, A70, H⟩ := H
   replace H : (some t178) = some r := H
   have A7 := Aside0.mk A70
   clear A70
   obtain rfl := Option.some.inj H
   go_enter Try.func72, Try.ntmps72
   go_wp2_with (first | ((with_reducible refine gate_callee (f := 57) rfl ?_); refine goesL_ (some 7) rfl rfl Try.func57 (by kernel_rfl) rfl #[.int .i64 a0] rfl (by (try simp only [List.map_toArray, List.map_cons, List.map_nil]); first | done | rfl | (simp only [List.length_drop, List.length_take]; rfl)) ?_; (with_reducible refine (q_Hold.calls a0 t176 _ A3.out).mono ?_); rintro e w' ⟨rfl, ⟨nd, rfl⟩⟩; refine ⟨_, rfl, ?_⟩) | ((with_reducible refine gate_callee (f := 57) rfl ?_); refine goesL_ (some 10) rfl rfl Try.func57 (by kernel_rfl) rfl #[.int .i64 a1] rfl (by (try simp only [List.map_toArray, List.map_cons, List.map_nil]); first | done | rfl | (simp only [List.length_drop, List.length_take]; rfl)) ?_; (with_reducible refine (q_Hold.calls a1 t177 _ A4.out).mono ?_); rintro e w' ⟨rfl, ⟨nd, rfl⟩⟩; refine ⟨_, rfl, ?_⟩) | ((with_reducible refine gate_callee (f := 57) rfl ?_); refine goesL_ (some 30) rfl rfl Try.func57 (by kernel_rfl) rfl #[.int .i64 (wrap64 (Int.tdiv (wrap64 (t176 * 65536)) t177))] rfl (by (try simp only [List.map_toArray, List.map_cons, List.map_nil]); first | done | rfl | (simp only [List.length_drop, List.length_take]; rfl)) ?_; (with_reducible refine (q_Hold.calls (wrap64 (Int.tdiv (wrap64 (t176 * 65536)) t177)) t178 _ A7.out).mono ?_); rintro e w' ⟨rfl, ⟨nd, rfl⟩⟩; refine ⟨_, rfl, ?_⟩))
   go_ret
   exact ⟨by first | rfl | (simp; done) | (simp [*]; done), by repeat (first | exact Drawn0.refl _ | apply Drawn0.step)⟩
  ·rw [if_neg c6] at H
   have c6b0 : ((Int.tmod (wrap64 (t176 * 65536)) t177) == 0) = false := beq_eq_false_iff_ne.mpr c6
   have c6b1 : ((Int.tmod (wrap64 (t176 * 65536)) t177) != 0) = true := bne_iff_ne.mpr c6
   by_cases c8 : ((decide ((wrap64 (t176 * 65536)) < 0)) != (decide (t177 < 0))) = true
   ·rw [if_pos c8] at H
    have c8b0 : ((decide ((wrap64 (t176 * 65536)) < 0)) != (decide (t177 < 0))) = true := c8
    (try (have c8b1 : decide ((decide ((wrap64 (t176 * 65536)) < 0)) = (decide (t177 < 0))) = false := by simpa using c8))
    (try (have c8b2 : ((decide ((wrap64 (t176 * 65536)) < 0)) == (decide (t177 < 0))) = false := by simpa using c8))
    (try (have c8b3 : ¬ ((decide ((wrap64 (t176 * 65536)) < 0)) = (decide (t177 < 0))) := by simpa using c8))
    clear c8
    replace H := Option.bind_eq_some_iff.mp H
    obtain ⟨t179, A90, H⟩ := H
    replace H : (some t179) = some r := H
    have A9 := Aside0.mk A90
    clear A90
    obtain rfl := Option.some.inj H
    go_enter Try.func72, Try.ntmps72
    go_wp2_with (first | ((with_reducible refine gate_callee (f := 57) rfl ?_); refine goesL_ (some 7) rfl rfl Try.func57 (by kernel_rfl) rfl #[.int .i64 a0] rfl (by (try simp only [List.map_toArray, List.map_cons, List.map_nil]); first | done | rfl | (simp only [List.length_drop, List.length_take]; rfl)) ?_; (with_reducible refine (q_Hold.calls a0 t176 _ A3.out).mono ?_); rintro e w' ⟨rfl, ⟨nd, rfl⟩⟩; refine ⟨_, rfl, ?_⟩) | ((with_reducible refine gate_callee (f := 57) rfl ?_); refine goesL_ (some 10) rfl rfl Try.func57 (by kernel_rfl) rfl #[.int .i64 a1] rfl (by (try simp only [List.map_toArray, List.map_cons, List.map_nil]); first | done | rfl | (simp only [List.length_drop, List.length_take]; rfl)) ?_; (with_reducible refine (q_Hold.calls a1 t177 _ A4.out).mono ?_); rintro e w' ⟨rfl, ⟨nd, rfl⟩⟩; refine ⟨_, rfl, ?_⟩) | ((with_reducible refine gate_callee (f := 57) rfl ?_); refine goesL_ (some 30) rfl rfl Try.func57 (by kernel_rfl) rfl #[.int .i64 (wrap64 ((wrap64 (Int.tdiv (wrap64 (t176 * 65536)) t177)) - 1))] rfl (by (try simp only [List.map_toArray, List.map_cons, List.map_nil]); first | done | rfl | (simp only [List.length_drop, List.length_take]; rfl)) ?_; (with_reducible refine (q_Hold.calls (wrap64 ((wrap64 (Int.tdiv (wrap64 (t176 * 65536)) t177)) - 1)) t179 _ A9.out).mono ?_); rintro e w' ⟨rfl, ⟨nd, rfl⟩⟩; refine ⟨_, rfl, ?_⟩))
    go_ret
    exact ⟨by first | rfl | (simp; done) | (simp [*]; done), by repeat (first | exact Drawn0.refl _ | apply Drawn0.step)⟩
   ·rw [if_neg c8] at H
    have c8b0 : ((decide ((wrap64 (t176 * 65536)) < 0)) != (decide (t177 < 0))) = false := by simpa using c8
    (try (have c8b1 : decide ((decide ((wrap64 (t176 * 65536)) < 0)) = (decide (t177 < 0))) = true := by simpa using c8))
    (try (have c8b2 : ((decide ((wrap64 (t176 * 65536)) < 0)) == (decide (t177 < 0))) = true := by simpa using c8))
    clear c8
    replace H := Option.bind_eq_some_iff.mp H
    obtain ⟨t180, A100, H⟩ := H
    replace H : (some t180) = some r := H
    have A10 := Aside0.mk A100
    clear A100
    obtain rfl := Option.some.inj H
    go_enter Try.func72, Try.ntmps72
    go_wp2_with (first | ((with_reducible refine gate_callee (f := 57) rfl ?_); refine goesL_ (some 7) rfl rfl Try.func57 (by kernel_rfl) rfl #[.int .i64 a0] rfl (by (try simp only [List.map_toArray, List.map_cons, List.map_nil]); first | done | rfl | (simp only [List.length_drop, List.length_take]; rfl)) ?_; (with_reducible refine (q_Hold.calls a0 t176 _ A3.out).mono ?_); rintro e w' ⟨rfl, ⟨nd, rfl⟩⟩; refine ⟨_, rfl, ?_⟩) | ((with_reducible refine gate_callee (f := 57) rfl ?_); refine goesL_ (some 10) rfl rfl Try.func57 (by kernel_rfl) rfl #[.int .i64 a1] rfl (by (try simp only [List.map_toArray, List.map_cons, List.map_nil]); first | done | rfl | (simp only [List.length_drop, List.length_take]; rfl)) ?_; (with_reducible refine (q_Hold.calls a1 t177 _ A4.out).mono ?_); rintro e w' ⟨rfl, ⟨nd, rfl⟩⟩; refine ⟨_, rfl, ?_⟩) | ((with_reducible refine gate_callee (f := 57) rfl ?_); refine goesL_ (some 30) rfl rfl Try.func57 (by kernel_rfl) rfl #[.int .i64 (wrap64 (Int.tdiv (wrap64 (t176 * 65536)) t177))] rfl (by (try simp only [List.map_toArray, List.map_cons, List.map_nil]); first | done | rfl | (simp only [List.length_drop, List.length_take]; rfl)) ?_; (with_reducible refine (q_Hold.calls (wrap64 (Int.tdiv (wrap64 (t176 * 65536)) t177)) t180 _ A10.out).mono ?_); rintro e w' ⟨rfl, ⟨nd, rfl⟩⟩; refine ⟨_, rfl, ?_⟩))
    go_ret
    exact ⟨by first | rfl | (simp; done) | (simp [*]; done), by repeat (first | exact Drawn0.refl _ | apply Drawn0.step)⟩
end Go.Proofs.Ythohhdcngdmbeaa.PW
end
