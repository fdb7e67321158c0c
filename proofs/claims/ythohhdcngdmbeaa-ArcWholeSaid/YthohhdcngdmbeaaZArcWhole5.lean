/- Lines of 7 texts of this seat, merged by wip/shake.py (a program of this session): what the statement's proof does not use is left out. -/
import Derived.Test.YthohhdcngdmbeaaZArcWhole4
import Derived.ChangeSlices
import Derived.SizedLaws

section
namespace Go.Proofs.Ythohhdcngdmbeaa.PW
open Go.RowKit Go.Proofs.YthohhdcngdmbeaaW.PrintWords Go.Proofs.YthohhdcngdmbeaaW.PrintLast Go.Proofs.YthohhdcngdmbeaaW.PrintMore
attribute [local go_sem] max2_int min2_int max_two min_two max_three min_three max_four min_four
attribute [local go_sem] Go.Proofs.Ythohhdcngdmbeaa.MS.isSome_setCell
set_option linter.unusedVariables false
set_option linter.unusedSimpArgs false
attribute [local go_sem high] eqA34
mutual
def mutoscopelaw9_ArcWhole.j0 : Nat → Int → Bool → Bool → List (S34) → Bool → List (S34) → Option (Bool)
 | 0, _, _, _, _, _, _ => none
 | k + 1, x4, x35, x251000, x251001, x257000, x257001 => if x35 = true then (none) else (mutoscopelaw9_ArcWhole.l0 k x4 ([] : List (S34)) 0 x251000 x251001 x257000 x257001)
def mutoscopelaw9_ArcWhole.l0 : Nat → Int → List (S34) → Int → Bool → List (S34) → Bool → List (S34) → Option (Bool)
 | 0, _, _, _, _, _, _, _ => none
 | k + 1, x4, x6, x7, x251000, x251001, x257000, x257001 => (arc_Sides.f x251000 x251001).bind fun t258 => (if x7 < t258 then (if 0 ≤ x7 then (if x7 < (x251001.length : Int) then (if (x251001.length : Int) = 0 then (none) else (if 0 ≤ (Int.tmod (wrap64 (x7 + 1)) (x251001.length : Int)) then (if (Int.tmod (wrap64 (x7 + 1)) (x251001.length : Int)) < (x251001.length : Int) then (if (((rd_T34 x251001 x7).f0) == ((rd_T34 x251001 (Int.tmod (wrap64 (x7 + 1)) (x251001.length : Int))).f0) && (((rd_T34 x251001 x7).f1) == ((rd_T34 x251001 (Int.tmod (wrap64 (x7 + 1)) (x251001.length : Int))).f1))) = true then (mutoscopelaw9_ArcWhole.l0 k x4 x6 (wrap64 (x7 + 1)) x251000 x251001 x257000 x257001) else (if (x6.length : Int) = 0 then (if x6.length < 8796093022208 then (mutoscopelaw9_ArcWhole.j2 k x4 (x6 ++ [(⟨(rd_T34 x251001 x7).f0, (rd_T34 x251001 x7).f1⟩ : S34)]) x7 x251000 x251001 x257000 x257001 ((rd_T34 x251001 (Int.tmod (wrap64 (x7 + 1)) (x251001.length : Int))).f0) ((rd_T34 x251001 (Int.tmod (wrap64 (x7 + 1)) (x251001.length : Int))).f1)) else (none)) else (mutoscopelaw9_ArcWhole.j2 k x4 x6 x7 x251000 x251001 x257000 x257001 ((rd_T34 x251001 (Int.tmod (wrap64 (x7 + 1)) (x251001.length : Int))).f0) ((rd_T34 x251001 (Int.tmod (wrap64 (x7 + 1)) (x251001.length : Int))).f1)))) else (none)) else (none))) else (none)) else (none)) else ((mutoscoperef8_Points.f k x257001 x6).bind fun t269 => (if t269 = true then ((arc_Length.f k x257000 x257001).bind fun t270 => (if t270 = x4 then ((mutoscopelaw9_known.f k).bind fun t271 => (some t271)) else (none))) else (none))))
def mutoscopelaw9_ArcWhole.j2 : Nat → Int → List (S34) → Int → Bool → List (S34) → Bool → List (S34) → Int → Int → Option (Bool)
 | 0, _, _, _, _, _, _, _, _, _ => none
 | k + 1, x4, x6, x7, x251000, x251001, x257000, x257001, x263000, x263001 => if x6.length < 8796093022208 then (mutoscopelaw9_ArcWhole.l0 k x4 (x6 ++ [(⟨x263000, x263001⟩ : S34)]) (wrap64 (x7 + 1)) x251000 x251001 x257000 x257001) else (none)
end
def mutoscopelaw9_ArcWhole.f (k : Nat) (l0 : List Int) : Option (Bool) := (mutoscopelaw9_poly.f k l0 0).bind fun bt245 => ((arc_Length.f k bt245.1 bt245.2.1).bind fun t251 => ((arc_Part.f k bt245.1 bt245.2.1 0 t251).bind fun bt252 => (if t251 = 0 then (if (bt252.2.length : Int) = 0 then ((mutoscopelaw9_known.f k).bind fun t257 => (some t257)) else (none)) else (if bt252.1 = true then (mutoscopelaw9_ArcWhole.j0 k t251 true bt245.1 bt245.2.1 bt252.1 bt252.2) else (mutoscopelaw9_ArcWhole.j0 k t251 (decide ((bt252.2.length : Int) < 2)) bt245.1 bt245.2.1 bt252.1 bt252.2)))))
theorem mutoscopelaw9_ArcWhole.mono_l : ∀ k, (∀ y0 y1 y2 y3 y4 y5, LeO (mutoscopelaw9_ArcWhole.j0 k y0 y1 y2 y3 y4 y5) (mutoscopelaw9_ArcWhole.j0 (k + 1) y0 y1 y2 y3 y4 y5)) ∧ (∀ y0 y1 y2 y3 y4 y5 y6, LeO (mutoscopelaw9_ArcWhole.l0 k y0 y1 y2 y3 y4 y5 y6) (mutoscopelaw9_ArcWhole.l0 (k + 1) y0 y1 y2 y3 y4 y5 y6)) ∧ (∀ y0 y1 y2 y3 y4 y5 y6 y7 y8, LeO (mutoscopelaw9_ArcWhole.j2 k y0 y1 y2 y3 y4 y5 y6 y7 y8) (mutoscopelaw9_ArcWhole.j2 (k + 1) y0 y1 y2 y3 y4 y5 y6 y7 y8))
 | 0 => ⟨fun _ _ _ _ _ _ r h => by simp [mutoscopelaw9_ArcWhole.j0] at h, fun _ _ _ _ _ _ _ r h => by simp [mutoscopelaw9_ArcWhole.l0] at h, fun _ _ _ _ _ _ _ _ _ r h => by simp [mutoscopelaw9_ArcWhole.j2] at h⟩
 | k + 1 => by
  obtain ⟨ih0, ih1, ih2⟩ := mutoscopelaw9_ArcWhole.mono_l k
  refine ⟨?_, ?_, ?_⟩
  ·intro y0 y1 y2 y3 y4 y5
   unfold mutoscopelaw9_ArcWhole.j0
   repeat' first
   | (with_reducible exact ih0 _ _ _ _ _ _)
   | (with_reducible exact ih1 _ _ _ _ _ _ _)
   | (with_reducible exact ih2 _ _ _ _ _ _ _ _ _)
   | (with_reducible exact arc_Length.mono _ _ _)
   | (with_reducible exact arc_Part.mono _ _ _ _ _)
   | (with_reducible exact mutoscopelaw9_known.mono _)
   | (with_reducible exact mutoscopelaw9_poly.mono _ _ _)
   | (with_reducible exact mutoscoperef8_Points.mono _ _ _)
   | (with_reducible exact LeO.refl _)
   | (with_reducible exact LeO.none _)
   | (with_reducible refine LeO.ite ?_ ?_)
   | (with_reducible refine LeO.bind ?_ (fun _ => ?_))
   | exact ih0 _ _ _ _ _ _
   | exact ih1 _ _ _ _ _ _ _
   | exact ih2 _ _ _ _ _ _ _ _ _
   | exact arc_Length.mono _ _ _
   | exact arc_Part.mono _ _ _ _ _
   | exact mutoscopelaw9_known.mono _
   | exact mutoscopelaw9_poly.mono _ _ _
   | exact mutoscoperef8_Points.mono _ _ _
   | exact LeO.none _
   | refine LeO.ite ?_ ?_
   | refine LeO.bind ?_ (fun _ => ?_)
  ·intro y0 y1 y2 y3 y4 y5 y6
   unfold mutoscopelaw9_ArcWhole.l0
   repeat' first
   | (with_reducible exact ih0 _ _ _ _ _ _)
   | (with_reducible exact ih1 _ _ _ _ _ _ _)
   | (with_reducible exact ih2 _ _ _ _ _ _ _ _ _)
   | (with_reducible exact arc_Length.mono _ _ _)
   | (with_reducible exact arc_Part.mono _ _ _ _ _)
   | (with_reducible exact mutoscopelaw9_known.mono _)
   | (with_reducible exact mutoscopelaw9_poly.mono _ _ _)
   | (with_reducible exact mutoscoperef8_Points.mono _ _ _)
   | (with_reducible exact LeO.refl _)
   | (with_reducible exact LeO.none _)
   | (with_reducible refine LeO.ite ?_ ?_)
   | (with_reducible refine LeO.bind ?_ (fun _ => ?_))
   | exact ih0 _ _ _ _ _ _
   | exact ih1 _ _ _ _ _ _ _
   | exact ih2 _ _ _ _ _ _ _ _ _
   | exact arc_Length.mono _ _ _
   | exact arc_Part.mono _ _ _ _ _
   | exact mutoscopelaw9_known.mono _
   | exact mutoscopelaw9_poly.mono _ _ _
   | exact mutoscoperef8_Points.mono _ _ _
   | exact LeO.none _
   | refine LeO.ite ?_ ?_
   | refine LeO.bind ?_ (fun _ => ?_)
  ·intro y0 y1 y2 y3 y4 y5 y6 y7 y8
   unfold mutoscopelaw9_ArcWhole.j2
   repeat' first
   | (with_reducible exact ih0 _ _ _ _ _ _)
   | (with_reducible exact ih1 _ _ _ _ _ _ _)
   | (with_reducible exact ih2 _ _ _ _ _ _ _ _ _)
   | (with_reducible exact arc_Length.mono _ _ _)
   | (with_reducible exact arc_Part.mono _ _ _ _ _)
   | (with_reducible exact mutoscopelaw9_known.mono _)
   | (with_reducible exact mutoscopelaw9_poly.mono _ _ _)
   | (with_reducible exact mutoscoperef8_Points.mono _ _ _)
   | (with_reducible exact LeO.refl _)
   | (with_reducible exact LeO.none _)
   | (with_reducible refine LeO.ite ?_ ?_)
   | (with_reducible refine LeO.bind ?_ (fun _ => ?_))
   | exact ih0 _ _ _ _ _ _
   | exact ih1 _ _ _ _ _ _ _
   | exact ih2 _ _ _ _ _ _ _ _ _
   | exact arc_Length.mono _ _ _
   | exact arc_Part.mono _ _ _ _ _
   | exact mutoscopelaw9_known.mono _
   | exact mutoscopelaw9_poly.mono _ _ _
   | exact mutoscoperef8_Points.mono _ _ _
   | exact LeO.none _
   | refine LeO.ite ?_ ?_
   | refine LeO.bind ?_ (fun _ => ?_)
theorem mutoscopelaw9_ArcWhole.mono : ∀ a0 k, LeO (mutoscopelaw9_ArcWhole.f k a0) (mutoscopelaw9_ArcWhole.f (k + 1) a0) := by
 intro a0 k
 obtain ⟨ih0, ih1, ih2⟩ := mutoscopelaw9_ArcWhole.mono_l k
 unfold mutoscopelaw9_ArcWhole.f
 repeat' first
   | (with_reducible exact ih0 _ _ _ _ _ _)
   | (with_reducible exact ih1 _ _ _ _ _ _ _)
   | (with_reducible exact ih2 _ _ _ _ _ _ _ _ _)
   | (with_reducible exact arc_Length.mono _ _ _)
   | (with_reducible exact arc_Part.mono _ _ _ _ _)
   | (with_reducible exact mutoscopelaw9_known.mono _)
   | (with_reducible exact mutoscopelaw9_poly.mono _ _ _)
   | (with_reducible exact mutoscoperef8_Points.mono _ _ _)
   | (with_reducible exact LeO.refl _)
   | (with_reducible exact LeO.none _)
   | (with_reducible refine LeO.ite ?_ ?_)
   | (with_reducible refine LeO.bind ?_ (fun _ => ?_))
   | exact ih0 _ _ _ _ _ _
   | exact ih1 _ _ _ _ _ _ _
   | exact ih2 _ _ _ _ _ _ _ _ _
   | exact arc_Length.mono _ _ _
   | exact arc_Part.mono _ _ _ _ _
   | exact mutoscopelaw9_known.mono _
   | exact mutoscopelaw9_poly.mono _ _ _
   | exact mutoscoperef8_Points.mono _ _ _
   | exact LeO.none _
   | refine LeO.ite ?_ ?_
   | refine LeO.bind ?_ (fun _ => ?_)
def mutoscopelaw9_ArcWhole.T12 : Bool × List (List Nat × List Nat) := (true, [([], []), ([0], [0]), ([], []), ([1, 2], [1, 2]), ([3], [3]), ([], []), ([5], [5]), ([], []), ([7], [7]), ([], []), ([9], [9]), ([10], [10]), ([8, 11], [8, 11]), ([6, 12], [6, 12]), ([13], [13]), ([], []), ([], []), ([15, 4, 0, 1, 2, 3, 4, 15, 16], [4, 15]), ([16, 14, 17, 0, 1, 2, 3, 4, 5, 6, 7, 8, 9, 10, 11, 12, 13, 14, 15, 16, 17], [14, 16])])
def mutoscopelaw9_ArcWhole.B12 : List Nat := [0, 1, 0, 7, 15, 0, 32, 0, 128, 0, 512, 1536, 3968, 8160, 16352, 0, 0, 98335, 262143]
theorem mutoscopelaw9_ArcWhole.tab12 : rtab .any (opsOf Try.f4 12) = mutoscopelaw9_ArcWhole.T12 := by kernel_rfl
theorem mutoscopelaw9_ArcWhole.bits12 : waitsOk mutoscopelaw9_ArcWhole.T12.2 mutoscopelaw9_ArcWhole.B12 = true := by kernel_rfl
set_option maxHeartbeats 8000000 in
set_option maxRecDepth 100000 in
theorem mutoscopelaw9_ArcWhole.calls (k : Nat) (A0 : Option Addr) (c0 : Nat) (l0 : List Int) (r : Bool) (w : World) (hr0 : Kd.C (Kd.int .i64) w A0 l0.length l0) (hc0 : l0.length ≤ c0) (h : mutoscopelaw9_ArcWhole.f k l0 = some r) :
  Calls Try.prog 4 #[.slice A0 l0.length c0] w fun e w' => e = .returned (.bool r) ∧ Below w.heap.size w w' := by
 have hu25 := Try.underlying25
 have hu39 := Try.underlying39
 have hu34 := Try.underlying34
 have HR0 := Aside0.mk hr0
 have HC0 := Aside0.mk hc0
 clear hr0 hc0
 have HB := Aside0.mk (Below.refl w.heap.size w)
 have H : ((mutoscopelaw9_poly.f k l0 0).bind fun bt245 => ((arc_Length.f k bt245.1 bt245.2.1).bind fun t251 => ((arc_Part.f k bt245.1 bt245.2.1 0 t251).bind fun bt252 => (if t251 = 0 then (if (bt252.2.length : Int) = 0 then ((mutoscopelaw9_known.f k).bind fun t257 => (some t257)) else (none)) else (if bt252.1 = true then (mutoscopelaw9_ArcWhole.j0 k t251 true bt245.1 bt245.2.1 bt252.1 bt252.2) else (mutoscopelaw9_ArcWhole.j0 k t251 (decide ((bt252.2.length : Int) < 2)) bt245.1 bt245.2.1 bt252.1 bt252.2)))))) = some r := h
 clear h
 replace H := Option.bind_eq_some_iff.mp H
 obtain ⟨⟨t245, t246, t249⟩, A20, H⟩ := H
 replace H : ((arc_Length.f k t245 t246).bind fun t251 => ((arc_Part.f k t245 t246 0 t251).bind fun bt252 => (if t251 = 0 then (if (bt252.2.length : Int) = 0 then ((mutoscopelaw9_known.f k).bind fun t257 => (some t257)) else (none)) else (if bt252.1 = true then (mutoscopelaw9_ArcWhole.j0 k t251 true t245 t246 bt252.1 bt252.2) else (mutoscopelaw9_ArcWhole.j0 k t251 (decide ((bt252.2.length : Int) < 2)) t245 t246 bt252.1 bt252.2))))) = some r := H
 have A2 := Aside0.mk A20
 clear A20
 replace H := Option.bind_eq_some_iff.mp H
 obtain ⟨t251, A30, H⟩ := H
 replace H : ((arc_Part.f k t245 t246 0 t251).bind fun bt252 => (if t251 = 0 then (if (bt252.2.length : Int) = 0 then ((mutoscopelaw9_known.f k).bind fun t257 => (some t257)) else (none)) else (if bt252.1 = true then (mutoscopelaw9_ArcWhole.j0 k t251 true t245 t246 bt252.1 bt252.2) else (mutoscopelaw9_ArcWhole.j0 k t251 (decide ((bt252.2.length : Int) < 2)) t245 t246 bt252.1 bt252.2)))) = some r := H
 have A3 := Aside0.mk A30
 clear A30
 replace H := Option.bind_eq_some_iff.mp H
 obtain ⟨⟨t252, t253⟩, A40, H⟩ := H
 replace H : (if t251 = 0 then (if (t253.length : Int) = 0 then ((mutoscopelaw9_known.f k).bind fun t257 => (some t257)) else (none)) else (if t252 = true then (mutoscopelaw9_ArcWhole.j0 k t251 true t245 t246 t252 t253) else (mutoscopelaw9_ArcWhole.j0 k t251 (decide ((t253.length : Int) < 2)) t245 t246 t252 t253))) = some r := H
 have A4 := Aside0.mk A40
 clear A40
 by_cases c5 : t251 = 0
 ·rw [if_pos c5] at H
  have c5b0 : (t251 == 0) = true := beq_iff_eq.mpr c5
  have c5b1 : (t251 != 0) = false := bne_eq_false_iff_eq.mpr c5
  clear c5
  by_cases c6 : (t253.length : Int) = 0
  ·rw [if_pos c6] at H
   have c6b0 : ((t253.length : Int) == 0) = true := beq_iff_eq.mpr c6
   have c6b1 : ((t253.length : Int) != 0) = false := bne_eq_false_iff_eq.mpr c6
   clear c6
   replace H := Option.bind_eq_some_iff.mp H
   obtain ⟨t257, A70, H⟩ := H
   replace H : (some t257) = some r := H
   have A7 := Aside0.mk A70
   clear A70
   obtain rfl := Option.some.inj H
   go_enter Try.func4, Try.ntmps4
   go_wp2_with (first | ((with_reducible refine gate_dst (N := 12) rfl ?_); (try (refine gate_guard (by rfl) ?_; dsimp only)); refine box_event ?hg (N := 12) ?hd (cs := #[.slice A0 l0.length c0, .int .i64 0]) (t := 25) ?hr ?_; (case hd => rfl); (case hg => rfl); (case hr => first | (go_simp; done) | (go_simp; rfl)); intro gb244 hg w8 hbox hb; have n0_ := Aside0.mk (below_step (by repeat (first | (with_reducible first | exact HB.out | apply below_alloc | apply pw_below_drewN | apply below_drew1) | exact HB.out)) hb); have n1_ := Aside0.mk ((show IsS25 w w8 gb244 l0 0 from ⟨_, _, hbox, (by rw [hg]; exact (below_size (by repeat (first | (with_reducible first | exact HB.out | apply below_alloc | apply pw_below_drewN | apply below_drew1) | exact HB.out))) : w.heap.size ≤ gb244), HR0.out⟩)); clear HB; have HB := n0_; have HI244 := n1_; clear n0_ n1_; clear hb hbox hg) | ((with_reducible refine gate_callee (f := 22) rfl ?_); refine goesL_ (some 13) rfl rfl Try.func22 (by kernel_rfl) rfl #[.pointer (some ⟨gb244, 0, none⟩)] rfl (by (try simp only [List.map_toArray, List.map_cons, List.map_nil]); first | done | rfl | (simp only [List.length_drop, List.length_take]; rfl)) ?_; (with_reducible refine (mutoscopelaw9_poly.calls k gb244 l0 0 t245 t246 t249 w _ ?side1 ?side2 A2.out).mono ?_); (case side1 => repeat (first | (with_reducible first | exact HI244.out | apply IsS25.alloc | apply IsS25.drewN | apply IsS25.drew | apply IsS25.set_1) | exact HI244.out)); (case side2 => repeat (first | (with_reducible first | exact HB.out | apply below_alloc | apply pw_below_drewN | apply below_drew1 | refine below_set ?_ (IsS25.ge HI244.out)) | exact HB.out)); rintro e w9 ⟨v247, rfl, ho0, hi, hb, hk⟩; refine ⟨_, rfl, ?_⟩; have n0_ := Aside0.mk (Kd.R_lower ho0 (below_size (by repeat (first | (with_reducible first | exact HB.out | apply below_alloc | apply pw_below_drewN | apply below_drew1 | refine below_set ?_ (IsS25.ge HI244.out)) | exact HB.out)))); have n1_ := Aside0.mk (hb); have n2_ := Aside0.mk (hi); clear HB; clear HI244; have HO248 := n0_; have HB := n1_; have HI244 := n2_; clear n0_ n1_ n2_; (try clear hb); (try clear hb2); (try clear hk); (try clear hi); (try clear ho0)) | ((with_reducible refine gate_dst (N := 3) rfl ?_); (try (refine gate_guard (by rfl) ?_; dsimp only)); refine box_event ?hg (N := 3) ?hd (cs := #[.bool false, .slice none 0 0]) (t := 39) ?hr ?_; (case hd => rfl); (case hg => rfl); (case hr => first | (go_simp; done) | (go_simp; rfl)); intro gb250 hg w10 hbox hb; have n0_ := Aside0.mk (Kd.R_below (by (with_reducible repeat (first | apply Kd.R_alloc | apply Kd.R_drewN | apply Kd.R_drew)); exact HO248.out) hb); have n1_ := Aside0.mk (IsS25.below (by repeat (first | (with_reducible first | exact HI244.out | apply IsS25.alloc | apply IsS25.drewN | apply IsS25.drew | apply IsS25.set_1) | exact HI244.out)) hb); have n2_ := Aside0.mk (below_step (by repeat (first | (with_reducible first | exact HB.out | apply below_alloc | apply pw_below_drewN | apply below_drew1 | refine below_set ?_ (IsS25.ge HI244.out)) | exact HB.out)) hb); have n3_ := Aside0.mk (hbox); have n4_ := Aside0.mk ((by rw [hg]; exact (below_size (by repeat (first | (with_reducible first | exact HB.out | apply below_alloc | apply pw_below_drewN | apply below_drew1 | refine below_set ?_ (IsS25.ge HI244.out)) | exact HB.out))) : w.heap.size ≤ gb250)); have n5_ := Aside0.mk ((by rw [hg]; exact (below_size (by repeat (first | (with_reducible first | exact HB.out | apply below_alloc | apply pw_below_drewN | apply below_drew1 | refine below_set ?_ (IsS25.ge HI244.out)) | exact HB.out))) : w.heap.size ≤ gb250)); have n6_ := Aside0.mk ((by rw [hg]; exact Nat.ne_of_lt (IsS25.lt (show IsS25 w _ gb244 l0 t249 from by repeat (first | (with_reducible first | exact HI244.out | apply IsS25.alloc | apply IsS25.drewN | apply IsS25.drew | apply IsS25.set_1) | exact HI244.out))) : gb244 ≠ gb250)); have n7_ := Aside0.mk ((by rw [hg]; exact Nat.ne_of_gt (IsS25.lt (show IsS25 w _ gb244 l0 t249 from by repeat (first | (with_reducible first | exact HI244.out | apply IsS25.alloc | apply IsS25.drewN | apply IsS25.drew | apply IsS25.set_1) | exact HI244.out))) : gb250 ≠ gb244)); clear HO248; clear HI244; clear HB; have HO248 := n0_; have HI244 := n1_; have HB := n2_; have BK250 := n3_; have GW250 := n4_; have GE250 := n5_; have NB244_250 := n6_; have NB250_244 := n7_; clear n0_ n1_ n2_ n3_ n4_ n5_ n6_ n7_; clear hb hbox hg; have hnb11 := NB250_244.out; have hnc11 := NB244_250.out; have hcz12_0 : w10.cell? ⟨gb250, 0, none⟩ = some (.bool false) := (blk_cell BK250.out 0).trans rfl; have hcz12_1 : w10.cell? ⟨gb250, 1, none⟩ = some (.slice none 0 0) := (blk_cell BK250.out 1).trans rfl; have hfz12_0 := blk_frozen BK250.out 0; have hfz12_1 := blk_frozen BK250.out 1; obtain ⟨Ao13, co13, eo13⟩ := Kd.R_slice HO248.out; subst eo13) | ((with_reducible refine gate_callee (f := 23) rfl ?_); refine goesL_ (some 15) rfl rfl Try.func23 (by kernel_rfl) rfl #[.agg #[.bool t245, .slice Ao13 t246.length co13]] rfl (by (try simp only [List.map_toArray, List.map_cons, List.map_nil]); first | done | rfl | (simp only [List.length_drop, List.length_take]; rfl)) ?_; (with_reducible refine (arc_Length.calls k t245 _ _ t246 t251 _ ?side1 ?side2 A3.out).mono ?_); (case side1 => refine (Kd.R_reads' (e := 34) (base := w.heap.size) (ok := fun k_ => True) (n := t246.length) (c := co13) ?_).2.2; exact (by (with_reducible repeat (first | apply Kd.R_alloc | apply Kd.R_drewN | apply Kd.R_drew)); exact (Kd.R_mono (Kd.R_far (p := ⟨gb250, 1, none⟩) (Kd.R_far (p := ⟨gb250, 0, none⟩) (Kd.R_types HO248.out BK250.out (by decide)) (fun _ hk => hk.2) (.bool t245)) (fun _ hk => hk.2) (.slice Ao13 t246.length co13)) (fun _ h_ => h_.1)))); (case side2 => exact (Kd.R_reads' HO248.out).2.1); rintro e w14 ⟨rfl, hb⟩; refine ⟨_, rfl, ?_⟩; have n0_ := Aside0.mk (Kd.R_below (by (with_reducible repeat (first | apply Kd.R_alloc | apply Kd.R_drewN | apply Kd.R_drew)); exact (Kd.R_mono (Kd.R_far (p := ⟨gb250, 1, none⟩) (Kd.R_far (p := ⟨gb250, 0, none⟩) (Kd.R_types HO248.out BK250.out (by decide)) (fun _ hk => hk.2) (.bool t245)) (fun _ hk => hk.2) (.slice Ao13 t246.length co13)) (fun _ h_ => h_.1))) hb); have n1_ := Aside0.mk (IsS25.below (show IsS25 w ((w10.setCell ⟨gb250, 0, none⟩ (.bool t245)).setCell ⟨gb250, 1, none⟩ (.slice Ao13 t246.length co13)) gb244 l0 t249 from by repeat (first | (with_reducible first | exact HI244.out | apply IsS25.alloc | apply IsS25.drewN | apply IsS25.drew | apply IsS25.set_1 | refine IsS25.far ?_ NB244_250.out _) | exact HI244.out)) hb); have n2_ := Aside0.mk (blk_below (g := gb250) (o := .cells #[.bool t245, .slice Ao13 t246.length co13] 39 (0, 0)) (by (with_reducible repeat (first | refine blk_drewN ?_ _ | refine blk_drew ?_ | refine blk_alloc ?_ _)); refine blk_put (cs := #[.bool t245, .slice none 0 0]) ?_ 1 _ rfl; (with_reducible repeat (first | refine blk_drewN ?_ _ | refine blk_drew ?_ | refine blk_alloc ?_ _)); refine blk_put (cs := #[.bool false, .slice none 0 0]) ?_ 0 _ rfl; (with_reducible repeat (first | refine blk_drewN ?_ _ | refine blk_drew ?_ | refine blk_alloc ?_ _)); exact BK250.out) hb); have n3_ := Aside0.mk (below_step (by repeat (first | (with_reducible first | exact HB.out | apply below_alloc | apply pw_below_drewN | apply below_drew1 | refine below_set ?_ (IsS25.ge HI244.out) | refine below_set ?_ GE250.out) | exact HB.out)) hb); clear HO248; clear HI244; clear BK250; clear HB; have HO248 := n0_; have HI244 := n1_; have BK250 := n2_; have HB := n3_; clear n0_ n1_ n2_ n3_; (try clear hb); (try clear hb2); (try clear hk); (try clear hi); have hcz15_0 : w14.cell? ⟨gb250, 0, none⟩ = some (.bool t245) := (blk_cell BK250.out 0).trans rfl; have hcz15_1 : w14.cell? ⟨gb250, 1, none⟩ = some (.slice Ao13 t246.length co13) := (blk_cell BK250.out 1).trans rfl; have hfz15_0 := blk_frozen BK250.out 0; have hfz15_1 := blk_frozen BK250.out 1) | ((with_reducible refine gate_callee (f := 24) rfl ?_); refine goesL_ (some 18) rfl rfl Try.func24 (by kernel_rfl) rfl #[.agg #[.bool t245, .slice Ao13 t246.length co13], .int .i64 0, .int .i64 t251] rfl (by (try simp only [List.map_toArray, List.map_cons, List.map_nil]); first | done | rfl | (simp only [List.length_drop, List.length_take]; rfl)) ?_; (with_reducible refine (arc_Part.calls k t245 _ _ t246 0 t251 t252 t253 _ ?side1 ?side2 A4.out).mono ?_); (case side1 => repeat (first | exact (Kd.R_reads' HO248.out).2.2 | (with_reducible refine Kd.C_alloc ?_ _) | (with_reducible refine Kd.C_drewN ?_ _) | (with_reducible refine Kd.C_drew ?_))); (case side2 => exact (Kd.R_reads' HO248.out).2.1); rintro e w16 ⟨v254, rfl, ho0, hb⟩; refine ⟨_, rfl, ?_⟩; have n0_ := Aside0.mk (Kd.R_elder' (by (with_reducible repeat (first | apply Kd.R_alloc | apply Kd.R_drewN | apply Kd.R_drew)); exact HO248.out) (Kd.R_base ho0) hb); have n1_ := Aside0.mk (Kd.R_lower (Kd.R_new' ho0 (Kd.R_lt (by (with_reducible repeat (first | apply Kd.R_alloc | apply Kd.R_drewN | apply Kd.R_drew)); exact HO248.out))) (below_size (by repeat (first | (with_reducible first | exact HB.out | apply below_alloc | apply pw_below_drewN | apply below_drew1 | refine below_set ?_ (IsS25.ge HI244.out) | refine below_set ?_ GE250.out) | exact HB.out)))); have n2_ := Aside0.mk (IsS25.below (by repeat (first | (with_reducible first | exact HI244.out | apply IsS25.alloc | apply IsS25.drewN | apply IsS25.drew | apply IsS25.set_1 | refine IsS25.far ?_ NB244_250.out _) | exact HI244.out)) hb); have n3_ := Aside0.mk (blk_below (g := gb250) (o := .cells #[.bool t245, .slice Ao13 t246.length co13] 39 (0, 0)) (by (with_reducible repeat (first | refine blk_drewN ?_ _ | refine blk_drew ?_ | refine blk_alloc ?_ _)); exact BK250.out) hb); have n4_ := Aside0.mk (below_step (by repeat (first | (with_reducible first | exact HB.out | apply below_alloc | apply pw_below_drewN | apply below_drew1 | refine below_set ?_ (IsS25.ge HI244.out) | refine below_set ?_ GE250.out) | exact HB.out)) hb); clear HO248; clear HI244; clear BK250; clear HB; have HO248 := n0_; have HO255 := n1_; have HI244 := n2_; have BK250 := n3_; have HB := n4_; clear n0_ n1_ n2_ n3_ n4_; (try clear hb); (try clear hb2); (try clear hk); (try clear hi); (try clear ho0)) | ((with_reducible refine gate_dst (N := 5) rfl ?_); (try (refine gate_guard (by rfl) ?_; dsimp only)); refine box_event ?hg (N := 5) ?hd (cs := #[.bool false, .slice none 0 0]) (t := 39) ?hr ?_; (case hd => rfl); (case hg => rfl); (case hr => first | (go_simp; done) | (go_simp; rfl)); intro gb256 hg w17 hbox hb; have n0_ := Aside0.mk (Kd.R_below (by (with_reducible repeat (first | apply Kd.R_alloc | apply Kd.R_drewN | apply Kd.R_drew)); exact HO248.out) hb); have n1_ := Aside0.mk (Kd.R_below (by (with_reducible repeat (first | apply Kd.R_alloc | apply Kd.R_drewN | apply Kd.R_drew)); exact HO255.out) hb); have n2_ := Aside0.mk (IsS25.below (by repeat (first | (with_reducible first | exact HI244.out | apply IsS25.alloc | apply IsS25.drewN | apply IsS25.drew | apply IsS25.set_1 | refine IsS25.far ?_ NB244_250.out _) | exact HI244.out)) hb); have n3_ := Aside0.mk (blk_below (g := gb250) (o := .cells #[.bool t245, .slice Ao13 t246.length co13] 39 (0, 0)) (by (with_reducible repeat (first | refine blk_drewN ?_ _ | refine blk_drew ?_ | refine blk_alloc ?_ _)); exact BK250.out) hb); have n4_ := Aside0.mk (below_step (by repeat (first | (with_reducible first | exact HB.out | apply below_alloc | apply pw_below_drewN | apply below_drew1 | refine below_set ?_ (IsS25.ge HI244.out) | refine below_set ?_ GE250.out) | exact HB.out)) hb); have n5_ := Aside0.mk (hbox); have n6_ := Aside0.mk ((by rw [hg]; exact (below_size (by repeat (first | (with_reducible first | exact HB.out | apply below_alloc | apply pw_below_drewN | apply below_drew1 | refine below_set ?_ (IsS25.ge HI244.out) | refine below_set ?_ GE250.out) | exact HB.out))) : w.heap.size ≤ gb256)); have n7_ := Aside0.mk ((by rw [hg]; exact (below_size (by repeat (first | (with_reducible first | exact HB.out | apply below_alloc | apply pw_below_drewN | apply below_drew1 | refine below_set ?_ (IsS25.ge HI244.out) | refine below_set ?_ GE250.out) | exact HB.out))) : w.heap.size ≤ gb256)); have n8_ := Aside0.mk ((by rw [hg]; exact Nat.ne_of_lt (blk_lt (g := gb250) (o := .cells #[.bool t245, .slice Ao13 t246.length co13] 39 (0, 0)) (by (with_reducible repeat (first | refine blk_drewN ?_ _ | refine blk_drew ?_ | refine blk_alloc ?_ _)); exact BK250.out)) : gb250 ≠ gb256)); have n9_ := Aside0.mk ((by rw [hg]; exact Nat.ne_of_gt (blk_lt (g := gb250) (o := .cells #[.bool t245, .slice Ao13 t246.length co13] 39 (0, 0)) (by (with_reducible repeat (first | refine blk_drewN ?_ _ | refine blk_drew ?_ | refine blk_alloc ?_ _)); exact BK250.out)) : gb256 ≠ gb250)); have n10_ := Aside0.mk ((by rw [hg]; exact Nat.ne_of_lt (IsS25.lt (show IsS25 w _ gb244 l0 t249 from by repeat (first | (with_reducible first | exact HI244.out | apply IsS25.alloc | apply IsS25.drewN | apply IsS25.drew | apply IsS25.set_1 | refine IsS25.far ?_ NB244_250.out _) | exact HI244.out))) : gb244 ≠ gb256)); have n11_ := Aside0.mk ((by rw [hg]; exact Nat.ne_of_gt (IsS25.lt (show IsS25 w _ gb244 l0 t249 from by repeat (first | (with_reducible first | exact HI244.out | apply IsS25.alloc | apply IsS25.drewN | apply IsS25.drew | apply IsS25.set_1 | refine IsS25.far ?_ NB244_250.out _) | exact HI244.out))) : gb256 ≠ gb244)); clear HO248; clear HO255; clear HI244; clear BK250; clear HB; have HO248 := n0_; have HO255 := n1_; have HI244 := n2_; have BK250 := n3_; have HB := n4_; have BK256 := n5_; have GW256 := n6_; have GE256 := n7_; have NB250_256 := n8_; have NB256_250 := n9_; have NB244_256 := n10_; have NB256_244 := n11_; clear n0_ n1_ n2_ n3_ n4_ n5_ n6_ n7_ n8_ n9_ n10_ n11_; clear hb hbox hg; have hnb18 := NB256_250.out; have hnc18 := NB250_256.out; have hnb19 := NB256_244.out; have hnc19 := NB244_256.out; have hcz20_0 : w17.cell? ⟨gb256, 0, none⟩ = some (.bool false) := (blk_cell BK256.out 0).trans rfl; have hcz20_1 : w17.cell? ⟨gb256, 1, none⟩ = some (.slice none 0 0) := (blk_cell BK256.out 1).trans rfl; have hfz20_0 := blk_frozen BK256.out 0; have hfz20_1 := blk_frozen BK256.out 1; obtain ⟨Ao21, co21, eo21⟩ := Kd.R_slice HO255.out; subst eo21) | (go_at_call 25; (with_reducible refine (mutoscopelaw9_known.calls k  t257 _ A7.out).mono ?_); rintro e w22 ⟨rfl, hb⟩; have n0_ := Aside0.mk (Kd.R_below (by (with_reducible repeat (first | apply Kd.R_alloc | apply Kd.R_drewN | apply Kd.R_drew)); exact (Kd.R_mono (Kd.R_far (p := ⟨gb256, 1, none⟩) (Kd.R_far (p := ⟨gb256, 0, none⟩) (Kd.R_types HO248.out BK256.out (by decide)) (fun _ hk => hk.2) (.bool t252)) (fun _ hk => hk.2) (.slice Ao21 t253.length co21)) (fun _ h_ => h_.1))) hb); have n1_ := Aside0.mk (Kd.R_below (by (with_reducible repeat (first | apply Kd.R_alloc | apply Kd.R_drewN | apply Kd.R_drew)); exact (Kd.R_mono (Kd.R_far (p := ⟨gb256, 1, none⟩) (Kd.R_far (p := ⟨gb256, 0, none⟩) (Kd.R_types HO255.out BK256.out (by decide)) (fun _ hk => hk.2) (.bool t252)) (fun _ hk => hk.2) (.slice Ao21 t253.length co21)) (fun _ h_ => h_.1))) hb); have n2_ := Aside0.mk (IsS25.below (show IsS25 w ((w17.setCell ⟨gb256, 0, none⟩ (.bool t252)).setCell ⟨gb256, 1, none⟩ (.slice Ao21 t253.length co21)) gb244 l0 t249 from by repeat (first | (with_reducible first | exact HI244.out | apply IsS25.alloc | apply IsS25.drewN | apply IsS25.drew | apply IsS25.set_1 | refine IsS25.far ?_ NB244_250.out _ | refine IsS25.far ?_ NB244_256.out _) | exact HI244.out)) hb); have n3_ := Aside0.mk (blk_below (g := gb250) (o := .cells #[.bool t245, .slice Ao13 t246.length co13] 39 (0, 0)) (by (with_reducible repeat (first | refine blk_drewN ?_ _ | refine blk_drew ?_ | refine blk_alloc ?_ _)); refine blk_far ?_ NB250_256.out _; (with_reducible repeat (first | refine blk_drewN ?_ _ | refine blk_drew ?_ | refine blk_alloc ?_ _)); refine blk_far ?_ NB250_256.out _; (with_reducible repeat (first | refine blk_drewN ?_ _ | refine blk_drew ?_ | refine blk_alloc ?_ _)); exact BK250.out) hb); have n4_ := Aside0.mk (blk_below (g := gb256) (o := .cells #[.bool t252, .slice Ao21 t253.length co21] 39 (0, 0)) (by (with_reducible repeat (first | refine blk_drewN ?_ _ | refine blk_drew ?_ | refine blk_alloc ?_ _)); refine blk_put (cs := #[.bool t252, .slice none 0 0]) ?_ 1 _ rfl; (with_reducible repeat (first | refine blk_drewN ?_ _ | refine blk_drew ?_ | refine blk_alloc ?_ _)); refine blk_put (cs := #[.bool false, .slice none 0 0]) ?_ 0 _ rfl; (with_reducible repeat (first | refine blk_drewN ?_ _ | refine blk_drew ?_ | refine blk_alloc ?_ _)); exact BK256.out) hb); have n5_ := Aside0.mk (below_step (by repeat (first | (with_reducible first | exact HB.out | apply below_alloc | apply pw_below_drewN | apply below_drew1 | refine below_set ?_ (IsS25.ge HI244.out) | refine below_set ?_ GE250.out | refine below_set ?_ GE256.out) | exact HB.out)) hb); clear HO248; clear HO255; clear HI244; clear BK250; clear BK256; clear HB; have HO248 := n0_; have HO255 := n1_; have HI244 := n2_; have BK250 := n3_; have BK256 := n4_; have HB := n5_; clear n0_ n1_ n2_ n3_ n4_ n5_; (try clear hb); (try clear hb2); (try clear hk); (try clear hi)))
   go_ret
   exact ⟨by first | rfl | (simp [errW_none, errW_some] <;> rfl) | (simp [*, errW_none, errW_some] <;> rfl), by repeat (first | (with_reducible first | exact HB.out | apply below_alloc | apply pw_below_drewN | apply below_drew1 | refine below_set ?_ (IsS25.ge HI244.out) | refine below_set ?_ GE250.out | refine below_set ?_ GE256.out) | exact HB.out)⟩
  ·rw [if_neg c6] at H
   exact absurd H (by simp)
 ·rw [if_neg c5] at H
  have c5b0 : (t251 == 0) = false := beq_eq_false_iff_ne.mpr c5
  have c5b1 : (t251 != 0) = true := bne_iff_ne.mpr c5
  have HC23 := Aside0.mk H
  clear H
  go_enter Try.func4, Try.ntmps4
  go_upto_region 6 with (first | ((with_reducible refine gate_dst (N := 12) rfl ?_); (try (refine gate_guard (by rfl) ?_; dsimp only)); refine box_event ?hg (N := 12) ?hd (cs := #[.slice A0 l0.length c0, .int .i64 0]) (t := 25) ?hr ?_; (case hd => rfl); (case hg => rfl); (case hr => first | (go_simp; done) | (go_simp; rfl)); intro gb244 hg w24 hbox hb; have n0_ := Aside0.mk (below_step (by repeat (first | (with_reducible first | exact HB.out | apply below_alloc | apply pw_below_drewN | apply below_drew1) | exact HB.out)) hb); have n1_ := Aside0.mk ((show IsS25 w w24 gb244 l0 0 from ⟨_, _, hbox, (by rw [hg]; exact (below_size (by repeat (first | (with_reducible first | exact HB.out | apply below_alloc | apply pw_below_drewN | apply below_drew1) | exact HB.out))) : w.heap.size ≤ gb244), HR0.out⟩)); clear HB; have HB := n0_; have HI244 := n1_; clear n0_ n1_; clear hb hbox hg) | ((with_reducible refine gate_callee (f := 22) rfl ?_); refine goesL_ (some 13) rfl rfl Try.func22 (by kernel_rfl) rfl #[.pointer (some ⟨gb244, 0, none⟩)] rfl (by (try simp only [List.map_toArray, List.map_cons, List.map_nil]); first | done | rfl | (simp only [List.length_drop, List.length_take]; rfl)) ?_; (with_reducible refine (mutoscopelaw9_poly.calls k gb244 l0 0 t245 t246 t249 w _ ?side1 ?side2 A2.out).mono ?_); (case side1 => repeat (first | (with_reducible first | exact HI244.out | apply IsS25.alloc | apply IsS25.drewN | apply IsS25.drew | apply IsS25.set_1) | exact HI244.out)); (case side2 => repeat (first | (with_reducible first | exact HB.out | apply below_alloc | apply pw_below_drewN | apply below_drew1 | refine below_set ?_ (IsS25.ge HI244.out)) | exact HB.out)); rintro e w25 ⟨v247, rfl, ho0, hi, hb, hk⟩; refine ⟨_, rfl, ?_⟩; have n0_ := Aside0.mk (Kd.R_lower ho0 (below_size (by repeat (first | (with_reducible first | exact HB.out | apply below_alloc | apply pw_below_drewN | apply below_drew1 | refine below_set ?_ (IsS25.ge HI244.out)) | exact HB.out)))); have n1_ := Aside0.mk (hb); have n2_ := Aside0.mk (hi); clear HB; clear HI244; have HO248 := n0_; have HB := n1_; have HI244 := n2_; clear n0_ n1_ n2_; (try clear hb); (try clear hb2); (try clear hk); (try clear hi); (try clear ho0)) | ((with_reducible refine gate_dst (N := 3) rfl ?_); (try (refine gate_guard (by rfl) ?_; dsimp only)); refine box_event ?hg (N := 3) ?hd (cs := #[.bool false, .slice none 0 0]) (t := 39) ?hr ?_; (case hd => rfl); (case hg => rfl); (case hr => first | (go_simp; done) | (go_simp; rfl)); intro gb250 hg w26 hbox hb; have n0_ := Aside0.mk (Kd.R_below (by (with_reducible repeat (first | apply Kd.R_alloc | apply Kd.R_drewN | apply Kd.R_drew)); exact HO248.out) hb); have n1_ := Aside0.mk (IsS25.below (by repeat (first | (with_reducible first | exact HI244.out | apply IsS25.alloc | apply IsS25.drewN | apply IsS25.drew | apply IsS25.set_1) | exact HI244.out)) hb); have n2_ := Aside0.mk (below_step (by repeat (first | (with_reducible first | exact HB.out | apply below_alloc | apply pw_below_drewN | apply below_drew1 | refine below_set ?_ (IsS25.ge HI244.out)) | exact HB.out)) hb); have n3_ := Aside0.mk (hbox); have n4_ := Aside0.mk ((by rw [hg]; exact (below_size (by repeat (first | (with_reducible first | exact HB.out | apply below_alloc | apply pw_below_drewN | apply below_drew1 | refine below_set ?_ (IsS25.ge HI244.out)) | exact HB.out))) : w.heap.size ≤ gb250)); have n5_ := Aside0.mk ((by rw [hg]; exact (below_size (by repeat (first | (with_reducible first | exact HB.out | apply below_alloc | apply pw_below_drewN | apply below_drew1 | refine below_set ?_ (IsS25.ge HI244.out)) | exact HB.out))) : w.heap.size ≤ gb250)); have n6_ := Aside0.mk ((by rw [hg]; exact Nat.ne_of_lt (IsS25.lt (show IsS25 w _ gb244 l0 t249 from by repeat (first | (with_reducible first | exact HI244.out | apply IsS25.alloc | apply IsS25.drewN | apply IsS25.drew | apply IsS25.set_1) | exact HI244.out))) : gb244 ≠ gb250)); have n7_ := Aside0.mk ((by rw [hg]; exact Nat.ne_of_gt (IsS25.lt (show IsS25 w _ gb244 l0 t249 from by repeat (first | (with_reducible first | exact HI244.out | apply IsS25.alloc | apply IsS25.drewN | apply IsS25.drew | apply IsS25.set_1) | exact HI244.out))) : gb250 ≠ gb244)); clear HO248; clear HI244; clear HB; have HO248 := n0_; have HI244 := n1_; have HB := n2_; have BK250 := n3_; have GW250 := n4_; have GE250 := n5_; have NB244_250 := n6_; have NB250_244 := n7_; clear n0_ n1_ n2_ n3_ n4_ n5_ n6_ n7_; clear hb hbox hg; have hnb27 := NB250_244.out; have hnc27 := NB244_250.out; have hcz28_0 : w26.cell? ⟨gb250, 0, none⟩ = some (.bool false) := (blk_cell BK250.out 0).trans rfl; have hcz28_1 : w26.cell? ⟨gb250, 1, none⟩ = some (.slice none 0 0) := (blk_cell BK250.out 1).trans rfl; have hfz28_0 := blk_frozen BK250.out 0; have hfz28_1 := blk_frozen BK250.out 1; obtain ⟨Ao29, co29, eo29⟩ := Kd.R_slice HO248.out; subst eo29) | ((with_reducible refine gate_callee (f := 23) rfl ?_); refine goesL_ (some 15) rfl rfl Try.func23 (by kernel_rfl) rfl #[.agg #[.bool t245, .slice Ao29 t246.length co29]] rfl (by (try simp only [List.map_toArray, List.map_cons, List.map_nil]); first | done | rfl | (simp only [List.length_drop, List.length_take]; rfl)) ?_; (with_reducible refine (arc_Length.calls k t245 _ _ t246 t251 _ ?side1 ?side2 A3.out).mono ?_); (case side1 => refine (Kd.R_reads' (e := 34) (base := w.heap.size) (ok := fun k_ => True) (n := t246.length) (c := co29) ?_).2.2; exact (by (with_reducible repeat (first | apply Kd.R_alloc | apply Kd.R_drewN | apply Kd.R_drew)); exact (Kd.R_mono (Kd.R_far (p := ⟨gb250, 1, none⟩) (Kd.R_far (p := ⟨gb250, 0, none⟩) (Kd.R_types HO248.out BK250.out (by decide)) (fun _ hk => hk.2) (.bool t245)) (fun _ hk => hk.2) (.slice Ao29 t246.length co29)) (fun _ h_ => h_.1)))); (case side2 => exact (Kd.R_reads' HO248.out).2.1); rintro e w30 ⟨rfl, hb⟩; refine ⟨_, rfl, ?_⟩; have n0_ := Aside0.mk (Kd.R_below (by (with_reducible repeat (first | apply Kd.R_alloc | apply Kd.R_drewN | apply Kd.R_drew)); exact (Kd.R_mono (Kd.R_far (p := ⟨gb250, 1, none⟩) (Kd.R_far (p := ⟨gb250, 0, none⟩) (Kd.R_types HO248.out BK250.out (by decide)) (fun _ hk => hk.2) (.bool t245)) (fun _ hk => hk.2) (.slice Ao29 t246.length co29)) (fun _ h_ => h_.1))) hb); have n1_ := Aside0.mk (IsS25.below (show IsS25 w ((w26.setCell ⟨gb250, 0, none⟩ (.bool t245)).setCell ⟨gb250, 1, none⟩ (.slice Ao29 t246.length co29)) gb244 l0 t249 from by repeat (first | (with_reducible first | exact HI244.out | apply IsS25.alloc | apply IsS25.drewN | apply IsS25.drew | apply IsS25.set_1 | refine IsS25.far ?_ NB244_250.out _) | exact HI244.out)) hb); have n2_ := Aside0.mk (blk_below (g := gb250) (o := .cells #[.bool t245, .slice Ao29 t246.length co29] 39 (0, 0)) (by (with_reducible repeat (first | refine blk_drewN ?_ _ | refine blk_drew ?_ | refine blk_alloc ?_ _)); refine blk_put (cs := #[.bool t245, .slice none 0 0]) ?_ 1 _ rfl; (with_reducible repeat (first | refine blk_drewN ?_ _ | refine blk_drew ?_ | refine blk_alloc ?_ _)); refine blk_put (cs := #[.bool false, .slice none 0 0]) ?_ 0 _ rfl; (with_reducible repeat (first | refine blk_drewN ?_ _ | refine blk_drew ?_ | refine blk_alloc ?_ _)); exact BK250.out) hb); have n3_ := Aside0.mk (below_step (by repeat (first | (with_reducible first | exact HB.out | apply below_alloc | apply pw_below_drewN | apply below_drew1 | refine below_set ?_ (IsS25.ge HI244.out) | refine below_set ?_ GE250.out) | exact HB.out)) hb); clear HO248; clear HI244; clear BK250; clear HB; have HO248 := n0_; have HI244 := n1_; have BK250 := n2_; have HB := n3_; clear n0_ n1_ n2_ n3_; (try clear hb); (try clear hb2); (try clear hk); (try clear hi); have hcz31_0 : w30.cell? ⟨gb250, 0, none⟩ = some (.bool t245) := (blk_cell BK250.out 0).trans rfl; have hcz31_1 : w30.cell? ⟨gb250, 1, none⟩ = some (.slice Ao29 t246.length co29) := (blk_cell BK250.out 1).trans rfl; have hfz31_0 := blk_frozen BK250.out 0; have hfz31_1 := blk_frozen BK250.out 1) | ((with_reducible refine gate_callee (f := 24) rfl ?_); refine goesL_ (some 18) rfl rfl Try.func24 (by kernel_rfl) rfl #[.agg #[.bool t245, .slice Ao29 t246.length co29], .int .i64 0, .int .i64 t251] rfl (by (try simp only [List.map_toArray, List.map_cons, List.map_nil]); first | done | rfl | (simp only [List.length_drop, List.length_take]; rfl)) ?_; (with_reducible refine (arc_Part.calls k t245 _ _ t246 0 t251 t252 t253 _ ?side1 ?side2 A4.out).mono ?_); (case side1 => repeat (first | exact (Kd.R_reads' HO248.out).2.2 | (with_reducible refine Kd.C_alloc ?_ _) | (with_reducible refine Kd.C_drewN ?_ _) | (with_reducible refine Kd.C_drew ?_))); (case side2 => exact (Kd.R_reads' HO248.out).2.1); rintro e w32 ⟨v254, rfl, ho0, hb⟩; refine ⟨_, rfl, ?_⟩; have n0_ := Aside0.mk (Kd.R_elder' (by (with_reducible repeat (first | apply Kd.R_alloc | apply Kd.R_drewN | apply Kd.R_drew)); exact HO248.out) (Kd.R_base ho0) hb); have n1_ := Aside0.mk (Kd.R_lower (Kd.R_new' ho0 (Kd.R_lt (by (with_reducible repeat (first | apply Kd.R_alloc | apply Kd.R_drewN | apply Kd.R_drew)); exact HO248.out))) (below_size (by repeat (first | (with_reducible first | exact HB.out | apply below_alloc | apply pw_below_drewN | apply below_drew1 | refine below_set ?_ (IsS25.ge HI244.out) | refine below_set ?_ GE250.out) | exact HB.out)))); have n2_ := Aside0.mk (IsS25.below (by repeat (first | (with_reducible first | exact HI244.out | apply IsS25.alloc | apply IsS25.drewN | apply IsS25.drew | apply IsS25.set_1 | refine IsS25.far ?_ NB244_250.out _) | exact HI244.out)) hb); have n3_ := Aside0.mk (blk_below (g := gb250) (o := .cells #[.bool t245, .slice Ao29 t246.length co29] 39 (0, 0)) (by (with_reducible repeat (first | refine blk_drewN ?_ _ | refine blk_drew ?_ | refine blk_alloc ?_ _)); exact BK250.out) hb); have n4_ := Aside0.mk (below_step (by repeat (first | (with_reducible first | exact HB.out | apply below_alloc | apply pw_below_drewN | apply below_drew1 | refine below_set ?_ (IsS25.ge HI244.out) | refine below_set ?_ GE250.out) | exact HB.out)) hb); clear HO248; clear HI244; clear BK250; clear HB; have HO248 := n0_; have HO255 := n1_; have HI244 := n2_; have BK250 := n3_; have HB := n4_; clear n0_ n1_ n2_ n3_ n4_; (try clear hb); (try clear hb2); (try clear hk); (try clear hi); (try clear ho0)) | ((with_reducible refine gate_dst (N := 5) rfl ?_); (try (refine gate_guard (by rfl) ?_; dsimp only)); refine box_event ?hg (N := 5) ?hd (cs := #[.bool false, .slice none 0 0]) (t := 39) ?hr ?_; (case hd => rfl); (case hg => rfl); (case hr => first | (go_simp; done) | (go_simp; rfl)); intro gb256 hg w33 hbox hb; have n0_ := Aside0.mk (Kd.R_below (by (with_reducible repeat (first | apply Kd.R_alloc | apply Kd.R_drewN | apply Kd.R_drew)); exact HO248.out) hb); have n1_ := Aside0.mk (Kd.R_below (by (with_reducible repeat (first | apply Kd.R_alloc | apply Kd.R_drewN | apply Kd.R_drew)); exact HO255.out) hb); have n2_ := Aside0.mk (IsS25.below (by repeat (first | (with_reducible first | exact HI244.out | apply IsS25.alloc | apply IsS25.drewN | apply IsS25.drew | apply IsS25.set_1 | refine IsS25.far ?_ NB244_250.out _) | exact HI244.out)) hb); have n3_ := Aside0.mk (blk_below (g := gb250) (o := .cells #[.bool t245, .slice Ao29 t246.length co29] 39 (0, 0)) (by (with_reducible repeat (first | refine blk_drewN ?_ _ | refine blk_drew ?_ | refine blk_alloc ?_ _)); exact BK250.out) hb); have n4_ := Aside0.mk (below_step (by repeat (first | (with_reducible first | exact HB.out | apply below_alloc | apply pw_below_drewN | apply below_drew1 | refine below_set ?_ (IsS25.ge HI244.out) | refine below_set ?_ GE250.out) | exact HB.out)) hb); have n5_ := Aside0.mk (hbox); have n6_ := Aside0.mk ((by rw [hg]; exact (below_size (by repeat (first | (with_reducible first | exact HB.out | apply below_alloc | apply pw_below_drewN | apply below_drew1 | refine below_set ?_ (IsS25.ge HI244.out) | refine below_set ?_ GE250.out) | exact HB.out))) : w.heap.size ≤ gb256)); have n7_ := Aside0.mk ((by rw [hg]; exact (below_size (by repeat (first | (with_reducible first | exact HB.out | apply below_alloc | apply pw_below_drewN | apply below_drew1 | refine below_set ?_ (IsS25.ge HI244.out) | refine below_set ?_ GE250.out) | exact HB.out))) : w.heap.size ≤ gb256)); have n8_ := Aside0.mk ((by rw [hg]; exact Nat.ne_of_lt (blk_lt (g := gb250) (o := .cells #[.bool t245, .slice Ao29 t246.length co29] 39 (0, 0)) (by (with_reducible repeat (first | refine blk_drewN ?_ _ | refine blk_drew ?_ | refine blk_alloc ?_ _)); exact BK250.out)) : gb250 ≠ gb256)); have n9_ := Aside0.mk ((by rw [hg]; exact Nat.ne_of_gt (blk_lt (g := gb250) (o := .cells #[.bool t245, .slice Ao29 t246.length co29] 39 (0, 0)) (by (with_reducible repeat (first | refine blk_drewN ?_ _ | refine blk_drew ?_ | refine blk_alloc ?_ _)); exact BK250.out)) : gb256 ≠ gb250)); have n10_ := Aside0.mk ((by rw [hg]; exact Nat.ne_of_lt (IsS25.lt (show IsS25 w _ gb244 l0 t249 from by repeat (first | (with_reducible first | exact HI244.out | apply IsS25.alloc | apply IsS25.drewN | apply IsS25.drew | apply IsS25.set_1 | refine IsS25.far ?_ NB244_250.out _) | exact HI244.out))) : gb244 ≠ gb256)); have n11_ := Aside0.mk ((by rw [hg]; exact Nat.ne_of_gt (IsS25.lt (show IsS25 w _ gb244 l0 t249 from by repeat (first | (with_reducible first | exact HI244.out | apply IsS25.alloc | apply IsS25.drewN | apply IsS25.drew | apply IsS25.set_1 | refine IsS25.far ?_ NB244_250.out _) | exact HI244.out))) : gb256 ≠ gb244)); clear HO248; clear HO255; clear HI244; clear BK250; clear HB; have HO248 := n0_; have HO255 := n1_; have HI244 := n2_; have BK250 := n3_; have HB := n4_; have BK256 := n5_; have GW256 := n6_; have GE256 := n7_; have NB250_256 := n8_; have NB256_250 := n9_; have NB244_256 := n10_; have NB256_244 := n11_; clear n0_ n1_ n2_ n3_ n4_ n5_ n6_ n7_ n8_ n9_ n10_ n11_; clear hb hbox hg; have hnb34 := NB256_250.out; have hnc34 := NB250_256.out; have hnb35 := NB256_244.out; have hnc35 := NB244_256.out; have hcz36_0 : w33.cell? ⟨gb256, 0, none⟩ = some (.bool false) := (blk_cell BK256.out 0).trans rfl; have hcz36_1 : w33.cell? ⟨gb256, 1, none⟩ = some (.slice none 0 0) := (blk_cell BK256.out 1).trans rfl; have hfz36_0 := blk_frozen BK256.out 0; have hfz36_1 := blk_frozen BK256.out 1; obtain ⟨Ao37, co37, eo37⟩ := Kd.R_slice HO255.out; subst eo37))
  (try simp only [Act.put, List.setIfInBounds_toArray, List.set_cons_zero, List.set_cons_succ])
  go_cut [35] (fun v35 wc => ∃ (kq : Nat) (x35_22 : Bool), v35 = .bool x35_22 ∧ Aside0 (mutoscopelaw9_ArcWhole.j0 kq t251 x35_22 t245 t246 t252 t253 = some r) ∧ Aside0 (kq ≤ k) ∧ Aside0 (Kd.R k34 34 wc w.heap.size (fun k_ => some k_ ≠ ((.slice Ao37 t253.length co37) : Value).ownBlock) (.slice Ao29 t246.length co29) t246) ∧ Aside0 (Kd.R k34 34 wc w.heap.size (fun k_ => some k_ ≠ ((.slice Ao29 t246.length co29) : Value).ownBlock) (.slice Ao37 t253.length co37) t253) ∧ Aside0 (wc.heap[gb250]? = some (.cells #[.bool t245, (.slice Ao29 t246.length co29)] 39 (0, 0))) ∧ Aside0 (wc.heap[gb256]? = some (.cells #[.bool t252, (.slice Ao37 t253.length co37)] 39 (0, 0))) ∧ Aside0 (Below w.heap.size w wc))
  case first =>
   have H := HC23.out
   clear HC23
   by_cases c38 : t252 = true
   ·subst c38
    have H1 : (mutoscopelaw9_ArcWhole.j0 k t251 true t245 t246 true t253) = some r := by rw [if_pos rfl] at H; exact H
    clear H
    have H := H1
    clear H1
    have H' := Aside0.mk H
    clear H
    have hnb39 := NB256_250.out
    have hnc39 := NB250_256.out
    have hnb40 := NB256_244.out
    have hnc40 := NB244_256.out
    have hcz41_0 : w33.cell? ⟨gb256, 0, none⟩ = some (.bool false) := (blk_cell BK256.out 0).trans rfl
    have hcz41_1 : w33.cell? ⟨gb256, 1, none⟩ = some (.slice none 0 0) := (blk_cell BK256.out 1).trans rfl
    have hfz41_0 := blk_frozen BK256.out 0
    have hfz41_1 := blk_frozen BK256.out 1
    go_wp2
    go_meet
    case rel => exact ⟨_, (true), (by first | rfl | (simp; done) | (simp [*]; done)), H', ⟨by first | omega | exact Nat.le_refl _⟩, ⟨by (with_reducible repeat (first | apply Kd.R_alloc | apply Kd.R_drewN | apply Kd.R_drew)); exact Kd.R_mono (Kd.R_far (p := ⟨gb256, 1, none⟩) (Kd.R_far (p := ⟨gb256, 0, none⟩) (Kd.R_types HO248.out BK256.out (by decide)) (fun _ hk => hk.2) (.bool true)) (fun _ hk => hk.2) (.slice Ao37 t253.length co37)) (fun _ hk => hk.1.2)⟩, ⟨by (with_reducible repeat (first | apply Kd.R_alloc | apply Kd.R_drewN | apply Kd.R_drew)); exact Kd.R_mono (Kd.R_far (p := ⟨gb256, 1, none⟩) (Kd.R_far (p := ⟨gb256, 0, none⟩) (Kd.R_types HO255.out BK256.out (by decide)) (fun _ hk => hk.2) (.bool true)) (fun _ hk => hk.2) (.slice Ao37 t253.length co37)) (fun _ hk => hk.1.2)⟩, ⟨by (with_reducible repeat (first | refine blk_drewN ?_ _ | refine blk_drew ?_ | refine blk_alloc ?_ _)); refine blk_far ?_ NB250_256.out _; (with_reducible repeat (first | refine blk_drewN ?_ _ | refine blk_drew ?_ | refine blk_alloc ?_ _)); refine blk_far ?_ NB250_256.out _; (with_reducible repeat (first | refine blk_drewN ?_ _ | refine blk_drew ?_ | refine blk_alloc ?_ _)); exact BK250.out⟩, ⟨by (with_reducible repeat (first | refine blk_drewN ?_ _ | refine blk_drew ?_ | refine blk_alloc ?_ _)); refine blk_put (cs := #[.bool true, .slice none 0 0]) ?_ 1 _ rfl; (with_reducible repeat (first | refine blk_drewN ?_ _ | refine blk_drew ?_ | refine blk_alloc ?_ _)); refine blk_put (cs := #[.bool false, .slice none 0 0]) ?_ 0 _ rfl; (with_reducible repeat (first | refine blk_drewN ?_ _ | refine blk_drew ?_ | refine blk_alloc ?_ _)); exact BK256.out⟩, ⟨by repeat (first | (with_reducible first | exact HB.out | apply below_alloc | apply pw_below_drewN | apply below_drew1 | refine below_set ?_ (IsS25.ge HI244.out) | refine below_set ?_ GE250.out | refine below_set ?_ GE256.out) | exact HB.out)⟩⟩
   ·replace c38 := Bool.eq_false_iff.mpr c38
    subst c38
    have H1 : (mutoscopelaw9_ArcWhole.j0 k t251 (decide ((t253.length : Int) < 2)) t245 t246 false t253) = some r := by rw [if_neg (show ¬ (false = true) by decide)] at H; exact H
    clear H
    have H := H1
    clear H1
    have H' := Aside0.mk H
    clear H
    have hnb42 := NB256_250.out
    have hnc42 := NB250_256.out
    have hnb43 := NB256_244.out
    have hnc43 := NB244_256.out
    have hcz44_0 : w33.cell? ⟨gb256, 0, none⟩ = some (.bool false) := (blk_cell BK256.out 0).trans rfl
    have hcz44_1 : w33.cell? ⟨gb256, 1, none⟩ = some (.slice none 0 0) := (blk_cell BK256.out 1).trans rfl
    have hfz44_0 := blk_frozen BK256.out 0
    have hfz44_1 := blk_frozen BK256.out 1
    go_wp2
    go_meet
    case rel => exact ⟨_, (decide ((t253.length : Int) < 2)), (by first | rfl | (simp; done) | (simp [*]; done)), H', ⟨by first | omega | exact Nat.le_refl _⟩, ⟨by (with_reducible repeat (first | apply Kd.R_alloc | apply Kd.R_drewN | apply Kd.R_drew)); exact Kd.R_mono (Kd.R_far (p := ⟨gb256, 1, none⟩) (Kd.R_far (p := ⟨gb256, 0, none⟩) (Kd.R_types HO248.out BK256.out (by decide)) (fun _ hk => hk.2) (.bool false)) (fun _ hk => hk.2) (.slice Ao37 t253.length co37)) (fun _ hk => hk.1.2)⟩, ⟨by (with_reducible repeat (first | apply Kd.R_alloc | apply Kd.R_drewN | apply Kd.R_drew)); exact Kd.R_mono (Kd.R_far (p := ⟨gb256, 1, none⟩) (Kd.R_far (p := ⟨gb256, 0, none⟩) (Kd.R_types HO255.out BK256.out (by decide)) (fun _ hk => hk.2) (.bool false)) (fun _ hk => hk.2) (.slice Ao37 t253.length co37)) (fun _ hk => hk.1.2)⟩, ⟨by (with_reducible repeat (first | refine blk_drewN ?_ _ | refine blk_drew ?_ | refine blk_alloc ?_ _)); refine blk_far ?_ NB250_256.out _; (with_reducible repeat (first | refine blk_drewN ?_ _ | refine blk_drew ?_ | refine blk_alloc ?_ _)); refine blk_far ?_ NB250_256.out _; (with_reducible repeat (first | refine blk_drewN ?_ _ | refine blk_drew ?_ | refine blk_alloc ?_ _)); exact BK250.out⟩, ⟨by (with_reducible repeat (first | refine blk_drewN ?_ _ | refine blk_drew ?_ | refine blk_alloc ?_ _)); refine blk_put (cs := #[.bool false, .slice none 0 0]) ?_ 1 _ rfl; (with_reducible repeat (first | refine blk_drewN ?_ _ | refine blk_drew ?_ | refine blk_alloc ?_ _)); refine blk_put (cs := #[.bool false, .slice none 0 0]) ?_ 0 _ rfl; (with_reducible repeat (first | refine blk_drewN ?_ _ | refine blk_drew ?_ | refine blk_alloc ?_ _)); exact BK256.out⟩, ⟨by repeat (first | (with_reducible first | exact HB.out | apply below_alloc | apply pw_below_drewN | apply below_drew1 | refine below_set ?_ (IsS25.ge HI244.out) | refine below_set ?_ GE250.out | refine below_set ?_ GE256.out) | exact HB.out)⟩⟩
  case rest =>
   clear HC23
   try clear c1
   try clear c2
   try clear p2
   try clear c3
   try clear c4
   try clear c5
   try clear c5b0
   try clear c5b1
   try clear c6
   try clear c6b0
   try clear c6b1
   try clear c11
   try clear c18
   try clear c19
   try clear c22
   try clear c23
   try clear c24
   try clear c27
   try clear c34
   try clear c35
   try clear c38
   try clear c39
   try clear c40
   try clear c42
   try clear c43
   try clear hcz12_0
   try clear hcz12_1
   try clear hcz15_0
   try clear hcz15_1
   try clear hcz20_0
   try clear hcz20_1
   try clear hcz28_0
   try clear hcz28_1
   try clear hcz31_0
   try clear hcz31_1
   try clear hcz36_0
   try clear hcz36_1
   try clear hcz41_0
   try clear hcz41_1
   try clear hcz44_0
   try clear hcz44_1
   try clear hfz12_0
   try clear hfz12_1
   try clear hfz15_0
   try clear hfz15_1
   try clear hfz20_0
   try clear hfz20_1
   try clear hfz28_0
   try clear hfz28_1
   try clear hfz31_0
   try clear hfz31_1
   try clear hfz36_0
   try clear hfz36_1
   try clear hfz41_0
   try clear hfz41_1
   try clear hfz44_0
   try clear hfz44_1
   obtain ⟨kq, x35_22, rfl, HA, HJ22, HO_251001, HO_257001, BK250, BK256, HB⟩ := hcut
   cases kq with
   | zero => exact absurd HA.out (by simp [mutoscopelaw9_ArcWhole.j0])
   | succ kj22 =>
    have H := HA.out
    clear HA
    simp only [mutoscopelaw9_ArcWhole.j0] at H
    by_cases c45 : x35_22 = true
    ·subst c45
     have H1 : (none) = some r := by rw [if_pos rfl] at H; exact H
     clear H
     have H := H1
     clear H1
     exact absurd H (by simp)
    ·replace c45 := Bool.eq_false_iff.mpr c45
     subst c45
     have H1 : (mutoscopelaw9_ArcWhole.l0 kj22 t251 ([] : List (S34)) 0 t245 t246 t252 t253) = some r := by rw [if_neg (show ¬ (false = true) by decide)] at H; exact H
     clear H
     have H := H1
     clear H1
     have H' := Aside0.mk H
     clear H
     go_wp2
     go_loopg [6, 7] kj22 (fun kq v6 v7 w' => ∃ (x6_2 : List (S34)) (x7_2 : Int), v7 = .int .i64 x7_2 ∧ Aside0 (mutoscopelaw9_ArcWhole.l0 kq t251 x6_2 x7_2 t245 t246 t252 t253 = some r) ∧ Aside0 (kq ≤ kj22) ∧ Aside0 (Kd.R k34 34 w' w.heap.size (fun k_ => some k_ ≠ ((.slice Ao29 t246.length co29) : Value).ownBlock ∧ some k_ ≠ ((.slice Ao37 t253.length co37) : Value).ownBlock) v6 x6_2) ∧ Aside0 (Kd.R k34 34 w' w.heap.size (fun k_ => some k_ ≠ (v6 : Value).ownBlock ∧ some k_ ≠ ((.slice Ao37 t253.length co37) : Value).ownBlock) (.slice Ao29 t246.length co29) t246) ∧ Aside0 (Kd.R k34 34 w' w.heap.size (fun k_ => some k_ ≠ (v6 : Value).ownBlock ∧ some k_ ≠ ((.slice Ao29 t246.length co29) : Value).ownBlock) (.slice Ao37 t253.length co37) t253) ∧ Aside0 (w'.heap[gb250]? = some (.cells #[.bool t245, (.slice Ao29 t246.length co29)] 39 (0, 0))) ∧ Aside0 (w'.heap[gb256]? = some (.cells #[.bool t252, (.slice Ao37 t253.length co37)] 39 (0, 0))) ∧ Aside0 (Below w.heap.size w w'))
     case atStart => exact ⟨(([] : List (S34))), (0), (by first | rfl | (simp; done) | (simp [*]; done)), H', ⟨Nat.le_refl _⟩, ⟨by first | exact Kd.R_nil _ _ _ _ _ | exact Kd.N_nil _ _ _ _ _ | exact Kd.V_nil _ _ _ _ _ | exact Kd.Q_nil _ _ _ _ _ | exact Kd.S_nil _ _ _ _ _⟩, ⟨by (with_reducible repeat (first | apply Kd.R_alloc | apply Kd.R_drewN | apply Kd.R_drew)); exact Kd.R_mono HO_251001.out (fun _ hk => ⟨(by simp [Value.ownBlock]), hk⟩)⟩, ⟨by (with_reducible repeat (first | apply Kd.R_alloc | apply Kd.R_drewN | apply Kd.R_drew)); exact Kd.R_mono HO_257001.out (fun _ hk => ⟨(by simp [Value.ownBlock]), hk⟩)⟩, ⟨by (with_reducible repeat (first | refine blk_drewN ?_ _ | refine blk_drew ?_ | refine blk_alloc ?_ _)); exact BK250.out⟩, ⟨by (with_reducible repeat (first | refine blk_drewN ?_ _ | refine blk_drew ?_ | refine blk_alloc ?_ _)); exact BK256.out⟩, ⟨by repeat (first | (with_reducible first | exact HB.out | apply below_alloc | apply pw_below_drewN | apply below_drew1 | refine below_set ?_ GE250.out | refine below_set ?_ GE256.out) | exact HB.out)⟩⟩
     case round =>
      clear H'
      try clear c1
      try clear c2
      try clear p2
      try clear c3
      try clear c4
      try clear c5
      try clear c5b0
      try clear c5b1
      try clear c6
      try clear c6b0
      try clear c6b1
      try clear c11
      try clear c18
      try clear c19
      try clear c22
      try clear c23
      try clear c24
      try clear c27
      try clear c34
      try clear c35
      try clear c38
      try clear c39
      try clear c40
      try clear c42
      try clear c43
      try clear c45
      try clear hcz12_0
      try clear hcz12_1
      try clear hcz15_0
      try clear hcz15_1
      try clear hcz20_0
      try clear hcz20_1
      try clear hcz28_0
      try clear hcz28_1
      try clear hcz31_0
      try clear hcz31_1
      try clear hcz36_0
      try clear hcz36_1
      try clear hcz41_0
      try clear hcz41_1
      try clear hcz44_0
      try clear hcz44_1
      try clear hfz12_0
      try clear hfz12_1
      try clear hfz15_0
      try clear hfz15_1
      try clear hfz20_0
      try clear hfz20_1
      try clear hfz28_0
      try clear hfz28_1
      try clear hfz31_0
      try clear hfz31_1
      try clear hfz36_0
      try clear hfz36_1
      try clear hfz41_0
      try clear hfz41_1
      try clear hfz44_0
      try clear hfz44_1
      try clear p2
      obtain ⟨x6_2, x7_2, rfl, HA, HK2, HO_6, HO_251001, HO_257001, BK250, BK256, HB⟩ := hrel
      cases gk with
      | zero => exact absurd HA.out (by simp [mutoscopelaw9_ArcWhole.l0])
      | succ k2 =>
       have H := HA.out
       clear HA
       simp only [mutoscopelaw9_ArcWhole.l0] at H
       replace H := Option.bind_eq_some_iff.mp H
       obtain ⟨t258, A460, H⟩ := H
       replace H : (if x7_2 < t258 then (if 0 ≤ x7_2 then (if x7_2 < (t246.length : Int) then (if (t246.length : Int) = 0 then (none) else (if 0 ≤ (Int.tmod (wrap64 (x7_2 + 1)) (t246.length : Int)) then (if (Int.tmod (wrap64 (x7_2 + 1)) (t246.length : Int)) < (t246.length : Int) then (if (((rd_T34 t246 x7_2).f0) == ((rd_T34 t246 (Int.tmod (wrap64 (x7_2 + 1)) (t246.length : Int))).f0) && (((rd_T34 t246 x7_2).f1) == ((rd_T34 t246 (Int.tmod (wrap64 (x7_2 + 1)) (t246.length : Int))).f1))) = true then (mutoscopelaw9_ArcWhole.l0 k2 t251 x6_2 (wrap64 (x7_2 + 1)) t245 t246 t252 t253) else (if (x6_2.length : Int) = 0 then (if x6_2.length < 8796093022208 then (mutoscopelaw9_ArcWhole.j2 k2 t251 (x6_2 ++ [(⟨(rd_T34 t246 x7_2).f0, (rd_T34 t246 x7_2).f1⟩ : S34)]) x7_2 t245 t246 t252 t253 ((rd_T34 t246 (Int.tmod (wrap64 (x7_2 + 1)) (t246.length : Int))).f0) ((rd_T34 t246 (Int.tmod (wrap64 (x7_2 + 1)) (t246.length : Int))).f1)) else (none)) else (mutoscopelaw9_ArcWhole.j2 k2 t251 x6_2 x7_2 t245 t246 t252 t253 ((rd_T34 t246 (Int.tmod (wrap64 (x7_2 + 1)) (t246.length : Int))).f0) ((rd_T34 t246 (Int.tmod (wrap64 (x7_2 + 1)) (t246.length : Int))).f1)))) else (none)) else (none))) else (none)) else (none)) else ((mutoscoperef8_Points.f k2 t253 x6_2).bind fun t269 => (if t269 = true then ((arc_Length.f k2 t252 t253).bind fun t270 => (if t270 = t251 then ((mutoscopelaw9_known.f k2).bind fun t271 => (some t271)) else (none))) else (none)))) = some r := H
       have A46 := Aside0.mk A460
       clear A460
       by_cases c47 : x7_2 < t258
       ·rw [if_pos c47] at H
        have c47b0 : decide (x7_2 < t258) = true := decide_eq_true c47
        clear c47
        by_cases c48 : 0 ≤ x7_2
        ·rw [if_pos c48] at H
         have c48b0 : decide (0 ≤ x7_2) = true := decide_eq_true c48
         clear c48
         by_cases c49 : x7_2 < (t246.length : Int)
         ·rw [if_pos c49] at H
          have c49b0 : decide (x7_2 < (t246.length : Int)) = true := decide_eq_true c49
          clear c49
          by_cases c50 : (t246.length : Int) = 0
          ·rw [if_pos c50] at H
           exact absurd H (by simp)
          ·rw [if_neg c50] at H
           have c50b0 : ((t246.length : Int) == 0) = false := beq_eq_false_iff_ne.mpr c50
           have c50b1 : ((t246.length : Int) != 0) = true := bne_iff_ne.mpr c50
           have c50b2 : ¬ (t246 = []) := fun h_ => c50 (by rw [h_]; rfl)
           obtain ⟨ji51, hji51⟩ : ∃ j_ : Int, (Int.tmod (wrap64 (x7_2 + 1)) (t246.length : Int)) = j_ := ⟨_, rfl⟩
           replace H : (if 0 ≤ (ji51) then (if (ji51) < (t246.length : Int) then (if (((rd_T34 t246 x7_2).f0) == ((rd_T34 t246 (ji51)).f0) && (((rd_T34 t246 x7_2).f1) == ((rd_T34 t246 (ji51)).f1))) = true then (mutoscopelaw9_ArcWhole.l0 k2 t251 x6_2 (wrap64 (x7_2 + 1)) t245 t246 t252 t253) else (if (x6_2.length : Int) = 0 then (if x6_2.length < 8796093022208 then (mutoscopelaw9_ArcWhole.j2 k2 t251 (x6_2 ++ [(⟨(rd_T34 t246 x7_2).f0, (rd_T34 t246 x7_2).f1⟩ : S34)]) x7_2 t245 t246 t252 t253 ((rd_T34 t246 (ji51)).f0) ((rd_T34 t246 (ji51)).f1)) else (none)) else (mutoscopelaw9_ArcWhole.j2 k2 t251 x6_2 x7_2 t245 t246 t252 t253 ((rd_T34 t246 (ji51)).f0) ((rd_T34 t246 (ji51)).f1)))) else (none)) else (none)) = some r := by first | (rw [hji51] at H; exact H) | (simp only [hji51] at H ⊢; exact H)
           (try rw [hji51] at A46)
           by_cases c52 : 0 ≤ (ji51)
           ·rw [if_pos c52] at H
            have c52b0 : decide (0 ≤ (ji51)) = true := decide_eq_true c52
            clear c52
            by_cases c53 : (ji51) < (t246.length : Int)
            ·rw [if_pos c53] at H
             have c53b0 : decide ((ji51) < (t246.length : Int)) = true := decide_eq_true c53
             clear c53
             by_cases c54 : (((rd_T34 t246 x7_2).f0) == ((rd_T34 t246 (ji51)).f0) && (((rd_T34 t246 x7_2).f1) == ((rd_T34 t246 (ji51)).f1))) = true
             ·rw [if_pos c54] at H
              have c54b0 : (((rd_T34 t246 x7_2).f0) == ((rd_T34 t246 (ji51)).f0) && (((rd_T34 t246 x7_2).f1) == ((rd_T34 t246 (ji51)).f1))) = true := c54
              (try (have c54b1 : decide (((rd_T34 t246 x7_2).f0) = ((rd_T34 t246 (ji51)).f0) && (((rd_T34 t246 x7_2).f1) == ((rd_T34 t246 (ji51)).f1))) = true := by simpa using c54))
              (try (have c54b2 : (((rd_T34 t246 x7_2).f0) == ((rd_T34 t246 (ji51)).f0) && (((rd_T34 t246 x7_2).f1) == ((rd_T34 t246 (ji51)).f1))) = true := by simpa using c54))
              clear c54
              have H' := Aside0.mk H
              clear H
              have hnb55 := NB250_256.out
              have hnc55 := NB256_250.out
              have hcz56_0 : wr.cell? ⟨gb250, 0, none⟩ = some (.bool t245) := (blk_cell BK250.out 0).trans rfl
              have hcz56_1 : wr.cell? ⟨gb250, 1, none⟩ = some (.slice Ao29 t246.length co29) := (blk_cell BK250.out 1).trans rfl
              have hfz56_0 := blk_frozen BK250.out 0
              have hfz56_1 := blk_frozen BK250.out 1
              try go_wp2_with (first | ((with_reducible refine gate_callee (f := 26) rfl ?_); refine goesL_ (some 38) rfl rfl Try.func26 (by kernel_rfl) rfl #[.agg #[.bool t245, .slice Ao29 t246.length co29]] rfl (by (try simp only [List.map_toArray, List.map_cons, List.map_nil]); first | done | rfl | (simp only [List.length_drop, List.length_take]; rfl)) ?_; (with_reducible refine (arc_Sides.calls t245 _ _ t246 t258 _ ?side1 ?side2 A46.out).mono ?_); (case side1 => repeat (first | exact (Kd.R_reads' HO_251001.out).2.2 | (with_reducible refine Kd.C_alloc ?_ _) | (with_reducible refine Kd.C_drewN ?_ _) | (with_reducible refine Kd.C_drew ?_))); (case side2 => exact (Kd.R_reads' HO_251001.out).2.1); rintro e w57 ⟨rfl, hb⟩; refine ⟨_, rfl, ?_⟩; have n0_ := Aside0.mk (Kd.R_below (by (with_reducible repeat (first | apply Kd.R_alloc | apply Kd.R_drewN | apply Kd.R_drew)); exact HO_6.out) hb); have n1_ := Aside0.mk (Kd.R_below (by (with_reducible repeat (first | apply Kd.R_alloc | apply Kd.R_drewN | apply Kd.R_drew)); exact HO_251001.out) hb); have n2_ := Aside0.mk (Kd.R_below (by (with_reducible repeat (first | apply Kd.R_alloc | apply Kd.R_drewN | apply Kd.R_drew)); exact HO_257001.out) hb); have n3_ := Aside0.mk (blk_below (g := gb250) (o := .cells #[.bool t245, .slice Ao29 t246.length co29] 39 (0, 0)) (by (with_reducible repeat (first | refine blk_drewN ?_ _ | refine blk_drew ?_ | refine blk_alloc ?_ _)); exact BK250.out) hb); have n4_ := Aside0.mk (blk_below (g := gb256) (o := .cells #[.bool t252, .slice Ao37 t253.length co37] 39 (0, 0)) (by (with_reducible repeat (first | refine blk_drewN ?_ _ | refine blk_drew ?_ | refine blk_alloc ?_ _)); exact BK256.out) hb); have n5_ := Aside0.mk (below_step (by repeat (first | (with_reducible first | exact HB.out | apply below_alloc | apply pw_below_drewN | apply below_drew1 | refine below_set ?_ GE250.out | refine below_set ?_ GE256.out) | exact HB.out)) hb); clear HO_6; clear HO_251001; clear HO_257001; clear BK250; clear BK256; clear HB; have HO_6 := n0_; have HO_251001 := n1_; have HO_257001 := n2_; have BK250 := n3_; have BK256 := n4_; have HB := n5_; clear n0_ n1_ n2_ n3_ n4_ n5_; (try clear hb); (try clear hb2); (try clear hk); (try clear hi)))
              have n0_ := Aside0.mk (Kd.R_drew HO_6.out)
              have n1_ := Aside0.mk (Kd.R_drew HO_251001.out)
              have n2_ := Aside0.mk (Kd.R_drew HO_257001.out)
              have n3_ := Aside0.mk (blk_drew BK250.out)
              have n4_ := Aside0.mk (blk_drew BK256.out)
              have n5_ := Aside0.mk (below_drew1 HB.out)
              clear HO_6
              clear HO_251001
              clear HO_257001
              clear BK250
              clear BK256
              clear HB
              have HO_6 := n0_
              have HO_251001 := n1_
              have HO_257001 := n2_
              have BK250 := n3_
              have BK256 := n4_
              have HB := n5_
              clear n0_ n1_ n2_ n3_ n4_ n5_
              have p259 : 0 ≤ (x7_2 : Int) := of_decide_eq_true (by first | (with_reducible assumption) | assumption)
              have q259 : x7_2 < (t246.length : Int) := of_decide_eq_true (by first | (with_reducible assumption) | assumption)
              obtain ⟨ad259, e259, hx259_0, hx259_1⟩ := at_T34 (Kd.R_reads' HO_251001.out).2.2 x7_2 p259 q259
              cases e259
              replace p259 := eq_true p259
              replace q259 := eq_true q259
              have p260 : 0 ≤ ((ji51) : Int) := of_decide_eq_true (by first | (with_reducible assumption) | assumption)
              have q260 : (ji51) < (t246.length : Int) := of_decide_eq_true (by first | (with_reducible assumption) | assumption)
              obtain ⟨ad260, e260, hx260_0, hx260_1⟩ := at_T34 (Kd.R_reads' HO_251001.out).2.2 (ji51) p260 q260
              obtain rfl : ad259 = ad260 := (by injection e260)
              replace p260 := eq_true p260
              replace q260 := eq_true q260
              refine start_ (n := 19) (S := fun w' => w'.cell? ⟨gb250, 0, none⟩ = some (.bool t245) ∧ w'.cell? ⟨gb250, 1, none⟩ = some (.slice (some ad259) t246.length co29) ∧ w'.cell? (ad259.add ((x7_2).toNat * 2)) = some (.int .i64 ((rd_T34 t246 x7_2).f0)) ∧ w'.cell? ⟨(ad259.add ((x7_2).toNat * 2)).block, (ad259.add ((x7_2).toNat * 2)).off + 1, none⟩ = some (.int .i64 ((rd_T34 t246 x7_2).f1)) ∧ w'.cell? (ad259.add (((ji51)).toNat * 2)) = some (.int .i64 ((rd_T34 t246 (ji51)).f0)) ∧ w'.cell? ⟨(ad259.add (((ji51)).toNat * 2)).block, (ad259.add (((ji51)).toNat * 2)).off + 1, none⟩ = some (.int .i64 ((rd_T34 t246 (ji51)).f1))) (ds := []) #[false, false, false, false, false, false, false, false, false, false, false, false, false, false, false, false, false, false, false] (by kernel_rfl) rfl rfl ⟨(blk_cell BK250.out 0).trans rfl, (blk_cell BK250.out 1).trans rfl, hx259_0, hx259_1, hx260_0, hx260_1⟩ (fun hHeld => ?_); refine with_tabW mutoscopelaw9_ArcWhole.tab12 mutoscopelaw9_ArcWhole.bits12 (fun HT_ HW_ => ?_)
              generalize w57.drew = w58 at HO_6 HO_251001 HO_257001 BK250 BK256 HB hx259_0 hx259_1 hx260_0 hx260_1 hHeld ⊢
              refine pure_ (i := 0) (N := some 42) (v := ?_) (a' := ?_) #[true, false, false, false, false, false, false, false, false, false, false, false, false, false, false, false, false, false, false] rfl rfl (any_of HT_.out (by kernel_rfl)) (fun _ _ _ h => h) (Or.inl ⟨by rfl, ?_⟩) ?_ ?_
              rotate_left
              ·intro w'
               go_simp
               with_reducible rfl
              rotate_left
              ·simp only [Act.put, List.setIfInBounds_toArray, List.set_cons_zero, List.set_cons_succ, i64_w, i32_w]
               rfl
              refine pure_ (i := 2) (N := some 44) (v := ?_) (a' := ?_) #[true, false, true, false, false, false, false, false, false, false, false, false, false, false, false, false, false, false, false] rfl rfl (any_of HT_.out (by kernel_rfl)) (fun _ _ _ h => h) (Or.inl ⟨by rfl, ?_⟩) ?_ ?_
              rotate_left
              ·intro w'
               go_simp
               with_reducible rfl
              rotate_left
              ·simp only [Act.put, List.setIfInBounds_toArray, List.set_cons_zero, List.set_cons_succ, i64_w, i32_w]
               rfl
              refine pure_ (i := 5) (N := some 47) (v := ?_) (a' := ?_) #[true, false, true, false, false, true, false, false, false, false, false, false, false, false, false, false, false, false, false] rfl rfl (any_of HT_.out (by kernel_rfl)) (fun _ _ _ h => h) (Or.inl ⟨by rfl, ?_⟩) ?_ ?_
              rotate_left
              ·intro w'
               go_simp
               with_reducible rfl
              rotate_left
              ·simp only [Act.put, List.setIfInBounds_toArray, List.set_cons_zero, List.set_cons_succ, i64_w, i32_w]
               rfl
              refine pure_ (i := 7) (N := some 49) (v := ?_) (a' := ?_) #[true, false, true, false, false, true, false, true, false, false, false, false, false, false, false, false, false, false, false] rfl rfl (any_of HT_.out (by kernel_rfl)) (fun _ _ _ h => h) (Or.inl ⟨by rfl, ?_⟩) ?_ ?_
              rotate_left
              ·intro w'
               go_simp
               with_reducible rfl
              rotate_left
              ·simp only [Act.put, List.setIfInBounds_toArray, List.set_cons_zero, List.set_cons_succ, i64_w, i32_w]
               rfl
              refine pure_ (i := 8) (N := some 50) (v := ?_) (a' := ?_) #[true, false, true, false, false, true, false, true, true, false, false, false, false, false, false, false, false, false, false] rfl rfl (any_of HT_.out (by kernel_rfl)) (fun _ _ _ h => h) (Or.inl ⟨by rfl, ?_⟩) ?_ ?_
              rotate_left
              ·intro w'
               go_simp
               with_reducible rfl
              rotate_left
              ·simp only [Act.put, List.setIfInBounds_toArray, List.set_cons_zero, List.set_cons_succ, i64_w, i32_w]
               rfl
              refine pure_ (i := 9) (N := some 51) (v := ?_) (a' := ?_) #[true, false, true, false, false, true, false, true, true, true, false, false, false, false, false, false, false, false, false] rfl rfl (any_of HT_.out (by kernel_rfl)) (fun _ _ _ h => h) (Or.inl ⟨by rfl, ?_⟩) ?_ ?_
              rotate_left
              ·intro w'
               go_simp
               with_reducible rfl
              rotate_left
              ·simp only [Act.put, List.setIfInBounds_toArray, List.set_cons_zero, List.set_cons_succ, i64_w, i32_w]
               rfl
              refine take_ (i := 1) (N := some 43) (v := ?_) (a' := ?_) #[true, true, true, false, false, true, false, true, true, true, false, false, false, false, false, false, false, false, false] rfl rfl (take_ofW HT_.out HW_.out (by kernel_rfl)) (fun _ _ _ h => h) (Or.inl ⟨by rfl, ?_⟩) hHeld ?_ ?_
              rotate_left
              ·rintro w' ⟨s0, s1, s2, s3, s4, s5⟩
               go_simp
               with_reducible rfl
              rotate_left
              ·simp only [Act.put, List.setIfInBounds_toArray, List.set_cons_zero, List.set_cons_succ, i64_w, i32_w]
               rfl
              refine pure_ (i := 3) (N := some 45) (v := ?_) (a' := ?_) #[true, true, true, true, false, true, false, true, true, true, false, false, false, false, false, false, false, false, false] rfl rfl (any_of HT_.out (by kernel_rfl)) (fun _ _ _ h => h) (Or.inl ⟨by rfl, ?_⟩) ?_ ?_
              rotate_left
              ·intro w'
               go_simp
               with_reducible rfl
              rotate_left
              ·simp only [Act.put, List.setIfInBounds_toArray, List.set_cons_zero, List.set_cons_succ, i64_w, i32_w]
               rfl
              refine take_ (i := 4) (N := some 46) (v := ?_) (a' := ?_) #[true, true, true, true, true, true, false, true, true, true, false, false, false, false, false, false, false, false, false] rfl rfl (take_ofW HT_.out HW_.out (by kernel_rfl)) (fun _ _ _ h => h) (Or.inl ⟨by rfl, ?_⟩) hHeld ?_ ?_
              rotate_left
              ·rintro w' ⟨s0, s1, s2, s3, s4, s5⟩
               go_simp
               with_reducible rfl
              rotate_left
              ·simp only [Act.put, List.setIfInBounds_toArray, List.set_cons_zero, List.set_cons_succ, i64_w, i32_w]
               rfl
              refine take_ (i := 6) (N := some 48) (v := ?_) (a' := ?_) #[true, true, true, true, true, true, true, true, true, true, false, false, false, false, false, false, false, false, false] rfl rfl (take_ofW HT_.out HW_.out (by kernel_rfl)) (fun _ _ _ h => h) (Or.inl ⟨by rfl, ?_⟩) hHeld ?_ ?_
              rotate_left
              ·rintro w' ⟨s0, s1, s2, s3, s4, s5⟩
               go_simp
               with_reducible rfl
              rotate_left
              ·simp only [Act.put, List.setIfInBounds_toArray, List.set_cons_zero, List.set_cons_succ, i64_w, i32_w]
               rfl
              refine take_ (i := 10) (N := some 52) (v := ?_) (a' := ?_) #[true, true, true, true, true, true, true, true, true, true, true, false, false, false, false, false, false, false, false] rfl rfl (take_ofW HT_.out HW_.out (by kernel_rfl)) (fun _ _ _ h => h) (Or.inl ⟨by rfl, ?_⟩) hHeld ?_ ?_
              rotate_left
              ·rintro w' ⟨s0, s1, s2, s3, s4, s5⟩
               go_simp
               with_reducible rfl
              rotate_left
              ·simp only [Act.put, List.setIfInBounds_toArray, List.set_cons_zero, List.set_cons_succ, i64_w, i32_w]
               rfl
              refine pure_ (i := 11) (N := some 53) (v := ?_) (a' := ?_) #[true, true, true, true, true, true, true, true, true, true, true, true, false, false, false, false, false, false, false] rfl rfl (any_of HT_.out (by kernel_rfl)) (fun _ _ _ h => h) (Or.inl ⟨by rfl, ?_⟩) ?_ ?_
              rotate_left
              ·intro w'
               go_simp
               with_reducible rfl
              rotate_left
              ·simp only [Act.put, List.setIfInBounds_toArray, List.set_cons_zero, List.set_cons_succ, i64_w, i32_w]
               rfl
              refine pure_ (i := 12) (N := some 54) (v := ?_) (a' := ?_) #[true, true, true, true, true, true, true, true, true, true, true, true, true, false, false, false, false, false, false] rfl rfl (any_of HT_.out (by kernel_rfl)) (fun _ _ _ h => h) (Or.inl ⟨by rfl, ?_⟩) ?_ ?_
              rotate_left
              ·intro w'
               go_simp
               with_reducible rfl
              rotate_left
              ·simp only [Act.put, List.setIfInBounds_toArray, List.set_cons_zero, List.set_cons_succ, i64_w, i32_w]
               rfl
              refine pure_ (i := 13) (N := some 55) (v := ?_) (a' := ?_) #[true, true, true, true, true, true, true, true, true, true, true, true, true, true, false, false, false, false, false] rfl rfl (any_of HT_.out (by kernel_rfl)) (fun _ _ _ h => h) (Or.inl ⟨by rfl, ?_⟩) ?_ ?_
              rotate_left
              ·intro w'
               go_simp
               with_reducible rfl
              rotate_left
              ·simp only [Act.put, List.setIfInBounds_toArray, List.set_cons_zero, List.set_cons_succ, i64_w, i32_w]
               rfl
              refine take_ (i := 14) (N := some 56) (v := ?_) (a' := ?_) #[true, true, true, true, true, true, true, true, true, true, true, true, true, true, true, false, false, false, false] rfl rfl (take_ofW HT_.out HW_.out (by kernel_rfl)) (fun _ _ _ h => h) (Or.inl ⟨by rfl, ?_⟩) hHeld ?_ ?_
              rotate_left
              ·rintro w' ⟨s0, s1, s2, s3, s4, s5⟩
               go_simp
               with_reducible rfl
              rotate_left
              ·simp only [Act.put, List.setIfInBounds_toArray, List.set_cons_zero, List.set_cons_succ, i64_w, i32_w]
               rfl
              refine join_ (σ := Nat × Nat) 2 #[true, true, true, true, true, true, true, true, true, true, true, true, true, true, true, true, true, false, false] (fun s_ => [(8, .pointer (some ⟨s_.1, 0, none⟩)), (9, .pointer (some ⟨s_.2, 0, none⟩))]) (fun s_ w' => (w'.cell? ⟨gb250, 0, none⟩ = some (.bool t245) ∧ w'.cell? ⟨gb250, 1, none⟩ = some (.slice (some ad259) t246.length co29) ∧ w'.cell? (ad259.add ((x7_2).toNat * 2)) = some (.int .i64 ((rd_T34 t246 x7_2).f0)) ∧ w'.cell? ⟨(ad259.add ((x7_2).toNat * 2)).block, (ad259.add ((x7_2).toNat * 2)).off + 1, none⟩ = some (.int .i64 ((rd_T34 t246 x7_2).f1)) ∧ w'.cell? (ad259.add (((ji51)).toNat * 2)) = some (.int .i64 ((rd_T34 t246 (ji51)).f0)) ∧ w'.cell? ⟨(ad259.add (((ji51)).toNat * 2)).block, (ad259.add (((ji51)).toNat * 2)).off + 1, none⟩ = some (.int .i64 ((rd_T34 t246 (ji51)).f1))) ∧ (Kd.R k34 34 w' w.heap.size (fun k_ => some k_ ≠ (.slice Ao37 t253.length co37 : Value).ownBlock ∧ some k_ ≠ (u6 : Value).ownBlock ∧ k_ ≠ s_.1 ∧ k_ ≠ s_.2) (.slice (some ad259) t246.length co29) t246) ∧ (Kd.R k34 34 w' w.heap.size (fun k_ => some k_ ≠ (.slice (some ad259) t246.length co29 : Value).ownBlock ∧ some k_ ≠ (u6 : Value).ownBlock ∧ k_ ≠ s_.1 ∧ k_ ≠ s_.2) (.slice Ao37 t253.length co37) t253) ∧ (Kd.R k34 34 w' w.heap.size (fun k_ => some k_ ≠ (.slice (some ad259) t246.length co29 : Value).ownBlock ∧ some k_ ≠ (.slice Ao37 t253.length co37 : Value).ownBlock ∧ k_ ≠ s_.1 ∧ k_ ≠ s_.2) u6 x6_2) ∧ (w'.heap[gb250]? = some (.cells #[.bool t245, .slice (some ad259) t246.length co29] 39 (0, 0))) ∧ (w'.heap[gb256]? = some (.cells #[.bool t252, .slice Ao37 t253.length co37] 39 (0, 0))) ∧ (w'.heap[s_.1]? = some (.cells #[.int .i64 0, .int .i64 0] 34 (0, 0))) ∧ (w'.heap[s_.2]? = some (.cells #[.int .i64 0, .int .i64 0] 34 (0, 0))) ∧ (w.heap.size ≤ s_.1) ∧ (w.heap.size ≤ s_.1) ∧ (gb250 ≠ s_.1) ∧ (s_.1 ≠ gb250) ∧ (gb256 ≠ s_.1) ∧ (s_.1 ≠ gb256) ∧ (s_.2 ≠ s_.1) ∧ (s_.1 ≠ s_.2) ∧ (w.heap.size ≤ s_.2) ∧ (w.heap.size ≤ s_.2) ∧ (gb250 ≠ s_.2) ∧ (s_.2 ≠ gb250) ∧ (gb256 ≠ s_.2) ∧ (s_.2 ≠ gb256) ∧ (Below w.heap.size w w')) ?_ ?_
              rotate_left
              ·intro hCont
               refine two_ (i := 15) (j := 16) (Ni := some 8) (Nj := some 9) #[true, true, true, true, true, true, true, true, true, true, true, true, true, true, true, true, false, false, false] #[true, true, true, true, true, true, true, true, true, true, true, true, true, true, true, false, true, false, false] rfl rfl rfl rfl (two_of HT_.out (by kernel_rfl)) (by decide) (by decide) (fun K hK => ?_) (fun K hK => ?_)
               ·skip
                refine box_step ?hg (N := 8) ?hd (cs := #[.int .i64 0, .int .i64 0]) (t := 34) ?hr ?_; (case hd => rfl); (case hg => rfl); (case hr => first | (go_simp; done) | (go_simp; rfl))
                intro gb261 hg w59 hbox hb
                have HS2_ := (hb.cell (World.block_lt_of_cell? _ _ (hHeld.2.2.1))).trans (hHeld.2.2.1)
                have HS3_ := (hb.cell (World.block_lt_of_cell? _ _ (hHeld.2.2.2.1))).trans (hHeld.2.2.2.1)
                have HS4_ := (hb.cell (World.block_lt_of_cell? _ _ (hHeld.2.2.2.2.1))).trans (hHeld.2.2.2.2.1)
                have HS5_ := (hb.cell (World.block_lt_of_cell? _ _ (hHeld.2.2.2.2.2))).trans (hHeld.2.2.2.2.2)
                have n0_ := Aside0.mk (Kd.R_below (Kd.R_elderB (by (with_reducible repeat (first | apply Kd.R_alloc | apply Kd.R_drewN | apply Kd.R_drew)); exact HO_6.out) gb261 (Nat.le_of_eq hg.symm)) hb)
                have n1_ := Aside0.mk (Kd.R_below (Kd.R_elderB (by (with_reducible repeat (first | apply Kd.R_alloc | apply Kd.R_drewN | apply Kd.R_drew)); exact HO_251001.out) gb261 (Nat.le_of_eq hg.symm)) hb)
                have n2_ := Aside0.mk (Kd.R_below (Kd.R_elderB (by (with_reducible repeat (first | apply Kd.R_alloc | apply Kd.R_drewN | apply Kd.R_drew)); exact HO_257001.out) gb261 (Nat.le_of_eq hg.symm)) hb)
                have n3_ := Aside0.mk (blk_below (g := gb250) (o := .cells #[.bool t245, .slice (some ad259) t246.length co29] 39 (0, 0)) (by (with_reducible repeat (first | refine blk_drewN ?_ _ | refine blk_drew ?_ | refine blk_alloc ?_ _)); exact BK250.out) hb)
                have n4_ := Aside0.mk (blk_below (g := gb256) (o := .cells #[.bool t252, .slice Ao37 t253.length co37] 39 (0, 0)) (by (with_reducible repeat (first | refine blk_drewN ?_ _ | refine blk_drew ?_ | refine blk_alloc ?_ _)); exact BK256.out) hb)
                have n5_ := Aside0.mk (below_step (by repeat (first | (with_reducible first | exact HB.out | apply below_alloc | apply pw_below_drewN | apply below_drew1 | refine below_set ?_ GE250.out | refine below_set ?_ GE256.out) | exact HB.out)) hb)
                have n6_ := Aside0.mk (hbox)
                have n7_ := Aside0.mk ((by rw [hg]; exact (below_size (by repeat (first | (with_reducible first | exact HB.out | apply below_alloc | apply pw_below_drewN | apply below_drew1 | refine below_set ?_ GE250.out | refine below_set ?_ GE256.out) | exact HB.out))) : w.heap.size ≤ gb261))
                have n8_ := Aside0.mk ((by rw [hg]; exact (below_size (by repeat (first | (with_reducible first | exact HB.out | apply below_alloc | apply pw_below_drewN | apply below_drew1 | refine below_set ?_ GE250.out | refine below_set ?_ GE256.out) | exact HB.out))) : w.heap.size ≤ gb261))
                have n9_ := Aside0.mk ((by rw [hg]; exact Nat.ne_of_lt (blk_lt (g := gb250) (o := .cells #[.bool t245, .slice (some ad259) t246.length co29] 39 (0, 0)) (by (with_reducible repeat (first | refine blk_drewN ?_ _ | refine blk_drew ?_ | refine blk_alloc ?_ _)); exact BK250.out)) : gb250 ≠ gb261))
                have n10_ := Aside0.mk ((by rw [hg]; exact Nat.ne_of_gt (blk_lt (g := gb250) (o := .cells #[.bool t245, .slice (some ad259) t246.length co29] 39 (0, 0)) (by (with_reducible repeat (first | refine blk_drewN ?_ _ | refine blk_drew ?_ | refine blk_alloc ?_ _)); exact BK250.out)) : gb261 ≠ gb250))
                have n11_ := Aside0.mk ((by rw [hg]; exact Nat.ne_of_lt (blk_lt (g := gb256) (o := .cells #[.bool t252, .slice Ao37 t253.length co37] 39 (0, 0)) (by (with_reducible repeat (first | refine blk_drewN ?_ _ | refine blk_drew ?_ | refine blk_alloc ?_ _)); exact BK256.out)) : gb256 ≠ gb261))
                have n12_ := Aside0.mk ((by rw [hg]; exact Nat.ne_of_gt (blk_lt (g := gb256) (o := .cells #[.bool t252, .slice Ao37 t253.length co37] 39 (0, 0)) (by (with_reducible repeat (first | refine blk_drewN ?_ _ | refine blk_drew ?_ | refine blk_alloc ?_ _)); exact BK256.out)) : gb261 ≠ gb256))
                clear HO_6
                clear HO_251001
                clear HO_257001
                clear BK250
                clear BK256
                clear HB
                have HO_6 := n0_
                have HO_251001 := n1_
                have HO_257001 := n2_
                have BK250 := n3_
                have BK256 := n4_
                have HB := n5_
                have BK261 := n6_
                have GW261 := n7_
                have GE261 := n8_
                have NB250_261 := n9_
                have NB261_250 := n10_
                have NB256_261 := n11_
                have NB261_256 := n12_
                clear n0_ n1_ n2_ n3_ n4_ n5_ n6_ n7_ n8_ n9_ n10_ n11_ n12_
                clear hb hbox hg
                refine hK.out _ _ ⟨(blk_cell BK250.out 0).trans rfl, (blk_cell BK250.out 1).trans rfl, HS2_, HS3_, HS4_, HS5_⟩ (fun hHeld => ?_)
                clear hK K
                refine norm_ (a' := ?_) ?_ ?_
                rotate_left
                ·show Act.put _ (some 8) _ = _
                 simp only [Act.put, List.setIfInBounds_toArray, List.set_cons_zero, List.set_cons_succ, i64_w, i32_w]
                 rfl
                refine one_ (i := 16) (N := some 9) #[true, true, true, true, true, true, true, true, true, true, true, true, true, true, true, true, true, false, false] rfl rfl (one_of HT_.out (by kernel_rfl)) (by decide) (fun K hK => ?_)
                refine box_step ?hg (N := 9) ?hd (cs := #[.int .i64 0, .int .i64 0]) (t := 34) ?hr ?_; (case hd => rfl); (case hg => rfl); (case hr => first | (go_simp; done) | (go_simp; rfl))
                intro gb262 hg w60 hbox hb
                have HS2_ := (hb.cell (World.block_lt_of_cell? _ _ (hHeld.2.2.1))).trans (hHeld.2.2.1)
                have HS3_ := (hb.cell (World.block_lt_of_cell? _ _ (hHeld.2.2.2.1))).trans (hHeld.2.2.2.1)
                have HS4_ := (hb.cell (World.block_lt_of_cell? _ _ (hHeld.2.2.2.2.1))).trans (hHeld.2.2.2.2.1)
                have HS5_ := (hb.cell (World.block_lt_of_cell? _ _ (hHeld.2.2.2.2.2))).trans (hHeld.2.2.2.2.2)
                have n0_ := Aside0.mk (Kd.R_below (Kd.R_elderB (by (with_reducible repeat (first | apply Kd.R_alloc | apply Kd.R_drewN | apply Kd.R_drew)); exact HO_6.out) gb262 (Nat.le_of_eq hg.symm)) hb)
                have n1_ := Aside0.mk (Kd.R_below (Kd.R_elderB (by (with_reducible repeat (first | apply Kd.R_alloc | apply Kd.R_drewN | apply Kd.R_drew)); exact HO_251001.out) gb262 (Nat.le_of_eq hg.symm)) hb)
                have n2_ := Aside0.mk (Kd.R_below (Kd.R_elderB (by (with_reducible repeat (first | apply Kd.R_alloc | apply Kd.R_drewN | apply Kd.R_drew)); exact HO_257001.out) gb262 (Nat.le_of_eq hg.symm)) hb)
                have n3_ := Aside0.mk (blk_below (g := gb250) (o := .cells #[.bool t245, .slice (some ad259) t246.length co29] 39 (0, 0)) (by (with_reducible repeat (first | refine blk_drewN ?_ _ | refine blk_drew ?_ | refine blk_alloc ?_ _)); exact BK250.out) hb)
                have n4_ := Aside0.mk (blk_below (g := gb256) (o := .cells #[.bool t252, .slice Ao37 t253.length co37] 39 (0, 0)) (by (with_reducible repeat (first | refine blk_drewN ?_ _ | refine blk_drew ?_ | refine blk_alloc ?_ _)); exact BK256.out) hb)
                have n5_ := Aside0.mk (blk_below (g := gb261) (o := .cells #[.int .i64 0, .int .i64 0] 34 (0, 0)) (by (with_reducible repeat (first | refine blk_drewN ?_ _ | refine blk_drew ?_ | refine blk_alloc ?_ _)); exact BK261.out) hb)
                have n6_ := Aside0.mk (below_step (by repeat (first | (with_reducible first | exact HB.out | apply below_alloc | apply pw_below_drewN | apply below_drew1 | refine below_set ?_ GE250.out | refine below_set ?_ GE256.out | refine below_set ?_ GE261.out) | exact HB.out)) hb)
                have n7_ := Aside0.mk (hbox)
                have n8_ := Aside0.mk ((by rw [hg]; exact (below_size (by repeat (first | (with_reducible first | exact HB.out | apply below_alloc | apply pw_below_drewN | apply below_drew1 | refine below_set ?_ GE250.out | refine below_set ?_ GE256.out | refine below_set ?_ GE261.out) | exact HB.out))) : w.heap.size ≤ gb262))
                have n9_ := Aside0.mk ((by rw [hg]; exact (below_size (by repeat (first | (with_reducible first | exact HB.out | apply below_alloc | apply pw_below_drewN | apply below_drew1 | refine below_set ?_ GE250.out | refine below_set ?_ GE256.out | refine below_set ?_ GE261.out) | exact HB.out))) : w.heap.size ≤ gb262))
                have n10_ := Aside0.mk ((by rw [hg]; exact Nat.ne_of_lt (blk_lt (g := gb250) (o := .cells #[.bool t245, .slice (some ad259) t246.length co29] 39 (0, 0)) (by (with_reducible repeat (first | refine blk_drewN ?_ _ | refine blk_drew ?_ | refine blk_alloc ?_ _)); exact BK250.out)) : gb250 ≠ gb262))
                have n11_ := Aside0.mk ((by rw [hg]; exact Nat.ne_of_gt (blk_lt (g := gb250) (o := .cells #[.bool t245, .slice (some ad259) t246.length co29] 39 (0, 0)) (by (with_reducible repeat (first | refine blk_drewN ?_ _ | refine blk_drew ?_ | refine blk_alloc ?_ _)); exact BK250.out)) : gb262 ≠ gb250))
                have n12_ := Aside0.mk ((by rw [hg]; exact Nat.ne_of_lt (blk_lt (g := gb256) (o := .cells #[.bool t252, .slice Ao37 t253.length co37] 39 (0, 0)) (by (with_reducible repeat (first | refine blk_drewN ?_ _ | refine blk_drew ?_ | refine blk_alloc ?_ _)); exact BK256.out)) : gb256 ≠ gb262))
                have n13_ := Aside0.mk ((by rw [hg]; exact Nat.ne_of_gt (blk_lt (g := gb256) (o := .cells #[.bool t252, .slice Ao37 t253.length co37] 39 (0, 0)) (by (with_reducible repeat (first | refine blk_drewN ?_ _ | refine blk_drew ?_ | refine blk_alloc ?_ _)); exact BK256.out)) : gb262 ≠ gb256))
                have n14_ := Aside0.mk ((by rw [hg]; exact Nat.ne_of_lt (blk_lt (g := gb261) (o := .cells #[.int .i64 0, .int .i64 0] 34 (0, 0)) (by (with_reducible repeat (first | refine blk_drewN ?_ _ | refine blk_drew ?_ | refine blk_alloc ?_ _)); exact BK261.out)) : gb261 ≠ gb262))
                have n15_ := Aside0.mk ((by rw [hg]; exact Nat.ne_of_gt (blk_lt (g := gb261) (o := .cells #[.int .i64 0, .int .i64 0] 34 (0, 0)) (by (with_reducible repeat (first | refine blk_drewN ?_ _ | refine blk_drew ?_ | refine blk_alloc ?_ _)); exact BK261.out)) : gb262 ≠ gb261))
                clear HO_6
                clear HO_251001
                clear HO_257001
                clear BK250
                clear BK256
                clear BK261
                clear HB
                have HO_6 := n0_
                have HO_251001 := n1_
                have HO_257001 := n2_
                have BK250 := n3_
                have BK256 := n4_
                have BK261 := n5_
                have HB := n6_
                have BK262 := n7_
                have GW262 := n8_
                have GE262 := n9_
                have NB250_262 := n10_
                have NB262_250 := n11_
                have NB256_262 := n12_
                have NB262_256 := n13_
                have NB261_262 := n14_
                have NB262_261 := n15_
                clear n0_ n1_ n2_ n3_ n4_ n5_ n6_ n7_ n8_ n9_ n10_ n11_ n12_ n13_ n14_ n15_
                clear hb hbox hg
                refine hK.out _ _ ⟨(blk_cell BK250.out 0).trans rfl, (blk_cell BK250.out 1).trans rfl, HS2_, HS3_, HS4_, HS5_⟩ (fun hHeld => ?_)
                clear hK K
                refine norm_ (a' := ?_) ?_ ?_
                rotate_left
                ·show Act.put _ (some 9) _ = _
                 simp only [Act.put, List.setIfInBounds_toArray, List.set_cons_zero, List.set_cons_succ, i64_w, i32_w]
                 rfl
                exact norm_ (by simp only [putAll, Act.put, List.setIfInBounds_toArray, List.set_cons_zero, List.set_cons_succ]) (hCont (gb261, gb262) _ ⟨hHeld, (by (with_reducible repeat (first | apply Kd.R_alloc | apply Kd.R_drewN | apply Kd.R_drew)); exact Kd.R_mono HO_251001.out (fun _ hk => ⟨hk.1.1.2, ⟨hk.1.1.1, ⟨hk.1.2, hk.2⟩⟩⟩)), (by (with_reducible repeat (first | apply Kd.R_alloc | apply Kd.R_drewN | apply Kd.R_drew)); exact Kd.R_mono HO_257001.out (fun _ hk => ⟨hk.1.1.2, ⟨hk.1.1.1, ⟨hk.1.2, hk.2⟩⟩⟩)), (by (with_reducible repeat (first | apply Kd.R_alloc | apply Kd.R_drewN | apply Kd.R_drew)); exact Kd.R_mono HO_6.out (fun _ hk => ⟨hk.1.1.1, ⟨hk.1.1.2, ⟨hk.1.2, hk.2⟩⟩⟩)), (by (with_reducible repeat (first | refine blk_drewN ?_ _ | refine blk_drew ?_ | refine blk_alloc ?_ _)); exact BK250.out), (by (with_reducible repeat (first | refine blk_drewN ?_ _ | refine blk_drew ?_ | refine blk_alloc ?_ _)); exact BK256.out), (by (with_reducible repeat (first | refine blk_drewN ?_ _ | refine blk_drew ?_ | refine blk_alloc ?_ _)); exact BK261.out), (by (with_reducible repeat (first | refine blk_drewN ?_ _ | refine blk_drew ?_ | refine blk_alloc ?_ _)); exact BK262.out), GW261.out, GE261.out, NB250_261.out, NB261_250.out, NB256_261.out, NB261_256.out, NB262_261.out, NB261_262.out, GW262.out, GE262.out, NB250_262.out, NB262_250.out, NB256_262.out, NB262_256.out, (by repeat (first | (with_reducible first | exact HB.out | apply below_alloc | apply pw_below_drewN | apply below_drew1 | refine below_set ?_ GE250.out | refine below_set ?_ GE256.out | refine below_set ?_ GE261.out | refine below_set ?_ GE262.out) | exact HB.out))⟩)
               ·skip
                refine box_step ?hg (N := 9) ?hd (cs := #[.int .i64 0, .int .i64 0]) (t := 34) ?hr ?_; (case hd => rfl); (case hg => rfl); (case hr => first | (go_simp; done) | (go_simp; rfl))
                intro gb262 hg w59 hbox hb
                have HS2_ := (hb.cell (World.block_lt_of_cell? _ _ (hHeld.2.2.1))).trans (hHeld.2.2.1)
                have HS3_ := (hb.cell (World.block_lt_of_cell? _ _ (hHeld.2.2.2.1))).trans (hHeld.2.2.2.1)
                have HS4_ := (hb.cell (World.block_lt_of_cell? _ _ (hHeld.2.2.2.2.1))).trans (hHeld.2.2.2.2.1)
                have HS5_ := (hb.cell (World.block_lt_of_cell? _ _ (hHeld.2.2.2.2.2))).trans (hHeld.2.2.2.2.2)
                have n0_ := Aside0.mk (Kd.R_below (Kd.R_elderB (by (with_reducible repeat (first | apply Kd.R_alloc | apply Kd.R_drewN | apply Kd.R_drew)); exact HO_6.out) gb262 (Nat.le_of_eq hg.symm)) hb)
                have n1_ := Aside0.mk (Kd.R_below (Kd.R_elderB (by (with_reducible repeat (first | apply Kd.R_alloc | apply Kd.R_drewN | apply Kd.R_drew)); exact HO_251001.out) gb262 (Nat.le_of_eq hg.symm)) hb)
                have n2_ := Aside0.mk (Kd.R_below (Kd.R_elderB (by (with_reducible repeat (first | apply Kd.R_alloc | apply Kd.R_drewN | apply Kd.R_drew)); exact HO_257001.out) gb262 (Nat.le_of_eq hg.symm)) hb)
                have n3_ := Aside0.mk (blk_below (g := gb250) (o := .cells #[.bool t245, .slice (some ad259) t246.length co29] 39 (0, 0)) (by (with_reducible repeat (first | refine blk_drewN ?_ _ | refine blk_drew ?_ | refine blk_alloc ?_ _)); exact BK250.out) hb)
                have n4_ := Aside0.mk (blk_below (g := gb256) (o := .cells #[.bool t252, .slice Ao37 t253.length co37] 39 (0, 0)) (by (with_reducible repeat (first | refine blk_drewN ?_ _ | refine blk_drew ?_ | refine blk_alloc ?_ _)); exact BK256.out) hb)
                have n5_ := Aside0.mk (below_step (by repeat (first | (with_reducible first | exact HB.out | apply below_alloc | apply pw_below_drewN | apply below_drew1 | refine below_set ?_ GE250.out | refine below_set ?_ GE256.out) | exact HB.out)) hb)
                have n6_ := Aside0.mk (hbox)
                have n7_ := Aside0.mk ((by rw [hg]; exact (below_size (by repeat (first | (with_reducible first | exact HB.out | apply below_alloc | apply pw_below_drewN | apply below_drew1 | refine below_set ?_ GE250.out | refine below_set ?_ GE256.out) | exact HB.out))) : w.heap.size ≤ gb262))
                have n8_ := Aside0.mk ((by rw [hg]; exact (below_size (by repeat (first | (with_reducible first | exact HB.out | apply below_alloc | apply pw_below_drewN | apply below_drew1 | refine below_set ?_ GE250.out | refine below_set ?_ GE256.out) | exact HB.out))) : w.heap.size ≤ gb262))
                have n9_ := Aside0.mk ((by rw [hg]; exact Nat.ne_of_lt (blk_lt (g := gb250) (o := .cells #[.bool t245, .slice (some ad259) t246.length co29] 39 (0, 0)) (by (with_reducible repeat (first | refine blk_drewN ?_ _ | refine blk_drew ?_ | refine blk_alloc ?_ _)); exact BK250.out)) : gb250 ≠ gb262))
                have n10_ := Aside0.mk ((by rw [hg]; exact Nat.ne_of_gt (blk_lt (g := gb250) (o := .cells #[.bool t245, .slice (some ad259) t246.length co29] 39 (0, 0)) (by (with_reducible repeat (first | refine blk_drewN ?_ _ | refine blk_drew ?_ | refine blk_alloc ?_ _)); exact BK250.out)) : gb262 ≠ gb250))
                have n11_ := Aside0.mk ((by rw [hg]; exact Nat.ne_of_lt (blk_lt (g := gb256) (o := .cells #[.bool t252, .slice Ao37 t253.length co37] 39 (0, 0)) (by (with_reducible repeat (first | refine blk_drewN ?_ _ | refine blk_drew ?_ | refine blk_alloc ?_ _)); exact BK256.out)) : gb256 ≠ gb262))
                have n12_ := Aside0.mk ((by rw [hg]; exact Nat.ne_of_gt (blk_lt (g := gb256) (o := .cells #[.bool t252, .slice Ao37 t253.length co37] 39 (0, 0)) (by (with_reducible repeat (first | refine blk_drewN ?_ _ | refine blk_drew ?_ | refine blk_alloc ?_ _)); exact BK256.out)) : gb262 ≠ gb256))
                clear HO_6
                clear HO_251001
                clear HO_257001
                clear BK250
                clear BK256
                clear HB
                have HO_6 := n0_
                have HO_251001 := n1_
                have HO_257001 := n2_
                have BK250 := n3_
                have BK256 := n4_
                have HB := n5_
                have BK262 := n6_
                have GW262 := n7_
                have GE262 := n8_
                have NB250_262 := n9_
                have NB262_250 := n10_
                have NB256_262 := n11_
                have NB262_256 := n12_
                clear n0_ n1_ n2_ n3_ n4_ n5_ n6_ n7_ n8_ n9_ n10_ n11_ n12_
                clear hb hbox hg
                refine hK.out _ _ ⟨(blk_cell BK250.out 0).trans rfl, (blk_cell BK250.out 1).trans rfl, HS2_, HS3_, HS4_, HS5_⟩ (fun hHeld => ?_)
                clear hK K
                refine norm_ (a' := ?_) ?_ ?_
                rotate_left
                ·show Act.put _ (some 9) _ = _
                 simp only [Act.put, List.setIfInBounds_toArray, List.set_cons_zero, List.set_cons_succ, i64_w, i32_w]
                 rfl
                refine one_ (i := 15) (N := some 8) #[true, true, true, true, true, true, true, true, true, true, true, true, true, true, true, true, true, false, false] rfl rfl (one_of HT_.out (by kernel_rfl)) (by decide) (fun K hK => ?_)
                refine box_step ?hg (N := 8) ?hd (cs := #[.int .i64 0, .int .i64 0]) (t := 34) ?hr ?_; (case hd => rfl); (case hg => rfl); (case hr => first | (go_simp; done) | (go_simp; rfl))
                intro gb261 hg w60 hbox hb
                have HS2_ := (hb.cell (World.block_lt_of_cell? _ _ (hHeld.2.2.1))).trans (hHeld.2.2.1)
                have HS3_ := (hb.cell (World.block_lt_of_cell? _ _ (hHeld.2.2.2.1))).trans (hHeld.2.2.2.1)
                have HS4_ := (hb.cell (World.block_lt_of_cell? _ _ (hHeld.2.2.2.2.1))).trans (hHeld.2.2.2.2.1)
                have HS5_ := (hb.cell (World.block_lt_of_cell? _ _ (hHeld.2.2.2.2.2))).trans (hHeld.2.2.2.2.2)
                have n0_ := Aside0.mk (Kd.R_below (Kd.R_elderB (by (with_reducible repeat (first | apply Kd.R_alloc | apply Kd.R_drewN | apply Kd.R_drew)); exact HO_6.out) gb261 (Nat.le_of_eq hg.symm)) hb)
                have n1_ := Aside0.mk (Kd.R_below (Kd.R_elderB (by (with_reducible repeat (first | apply Kd.R_alloc | apply Kd.R_drewN | apply Kd.R_drew)); exact HO_251001.out) gb261 (Nat.le_of_eq hg.symm)) hb)
                have n2_ := Aside0.mk (Kd.R_below (Kd.R_elderB (by (with_reducible repeat (first | apply Kd.R_alloc | apply Kd.R_drewN | apply Kd.R_drew)); exact HO_257001.out) gb261 (Nat.le_of_eq hg.symm)) hb)
                have n3_ := Aside0.mk (blk_below (g := gb250) (o := .cells #[.bool t245, .slice (some ad259) t246.length co29] 39 (0, 0)) (by (with_reducible repeat (first | refine blk_drewN ?_ _ | refine blk_drew ?_ | refine blk_alloc ?_ _)); exact BK250.out) hb)
                have n4_ := Aside0.mk (blk_below (g := gb256) (o := .cells #[.bool t252, .slice Ao37 t253.length co37] 39 (0, 0)) (by (with_reducible repeat (first | refine blk_drewN ?_ _ | refine blk_drew ?_ | refine blk_alloc ?_ _)); exact BK256.out) hb)
                have n5_ := Aside0.mk (blk_below (g := gb262) (o := .cells #[.int .i64 0, .int .i64 0] 34 (0, 0)) (by (with_reducible repeat (first | refine blk_drewN ?_ _ | refine blk_drew ?_ | refine blk_alloc ?_ _)); exact BK262.out) hb)
                have n6_ := Aside0.mk (below_step (by repeat (first | (with_reducible first | exact HB.out | apply below_alloc | apply pw_below_drewN | apply below_drew1 | refine below_set ?_ GE250.out | refine below_set ?_ GE256.out | refine below_set ?_ GE262.out) | exact HB.out)) hb)
                have n7_ := Aside0.mk (hbox)
                have n8_ := Aside0.mk ((by rw [hg]; exact (below_size (by repeat (first | (with_reducible first | exact HB.out | apply below_alloc | apply pw_below_drewN | apply below_drew1 | refine below_set ?_ GE250.out | refine below_set ?_ GE256.out | refine below_set ?_ GE262.out) | exact HB.out))) : w.heap.size ≤ gb261))
                have n9_ := Aside0.mk ((by rw [hg]; exact (below_size (by repeat (first | (with_reducible first | exact HB.out | apply below_alloc | apply pw_below_drewN | apply below_drew1 | refine below_set ?_ GE250.out | refine below_set ?_ GE256.out | refine below_set ?_ GE262.out) | exact HB.out))) : w.heap.size ≤ gb261))
                have n10_ := Aside0.mk ((by rw [hg]; exact Nat.ne_of_lt (blk_lt (g := gb250) (o := .cells #[.bool t245, .slice (some ad259) t246.length co29] 39 (0, 0)) (by (with_reducible repeat (first | refine blk_drewN ?_ _ | refine blk_drew ?_ | refine blk_alloc ?_ _)); exact BK250.out)) : gb250 ≠ gb261))
                have n11_ := Aside0.mk ((by rw [hg]; exact Nat.ne_of_gt (blk_lt (g := gb250) (o := .cells #[.bool t245, .slice (some ad259) t246.length co29] 39 (0, 0)) (by (with_reducible repeat (first | refine blk_drewN ?_ _ | refine blk_drew ?_ | refine blk_alloc ?_ _)); exact BK250.out)) : gb261 ≠ gb250))
                have n12_ := Aside0.mk ((by rw [hg]; exact Nat.ne_of_lt (blk_lt (g := gb256) (o := .cells #[.bool t252, .slice Ao37 t253.length co37] 39 (0, 0)) (by (with_reducible repeat (first | refine blk_drewN ?_ _ | refine blk_drew ?_ | refine blk_alloc ?_ _)); exact BK256.out)) : gb256 ≠ gb261))
                have n13_ := Aside0.mk ((by rw [hg]; exact Nat.ne_of_gt (blk_lt (g := gb256) (o := .cells #[.bool t252, .slice Ao37 t253.length co37] 39 (0, 0)) (by (with_reducible repeat (first | refine blk_drewN ?_ _ | refine blk_drew ?_ | refine blk_alloc ?_ _)); exact BK256.out)) : gb261 ≠ gb256))
                have n14_ := Aside0.mk ((by rw [hg]; exact Nat.ne_of_lt (blk_lt (g := gb262) (o := .cells #[.int .i64 0, .int .i64 0] 34 (0, 0)) (by (with_reducible repeat (first | refine blk_drewN ?_ _ | refine blk_drew ?_ | refine blk_alloc ?_ _)); exact BK262.out)) : gb262 ≠ gb261))
                have n15_ := Aside0.mk ((by rw [hg]; exact Nat.ne_of_gt (blk_lt (g := gb262) (o := .cells #[.int .i64 0, .int .i64 0] 34 (0, 0)) (by (with_reducible repeat (first | refine blk_drewN ?_ _ | refine blk_drew ?_ | refine blk_alloc ?_ _)); exact BK262.out)) : gb261 ≠ gb262))
                clear HO_6
                clear HO_251001
                clear HO_257001
                clear BK250
                clear BK256
                clear BK262
                clear HB
                have HO_6 := n0_
                have HO_251001 := n1_
                have HO_257001 := n2_
                have BK250 := n3_
                have BK256 := n4_
                have BK262 := n5_
                have HB := n6_
                have BK261 := n7_
                have GW261 := n8_
                have GE261 := n9_
                have NB250_261 := n10_
                have NB261_250 := n11_
                have NB256_261 := n12_
                have NB261_256 := n13_
                have NB262_261 := n14_
                have NB261_262 := n15_
                clear n0_ n1_ n2_ n3_ n4_ n5_ n6_ n7_ n8_ n9_ n10_ n11_ n12_ n13_ n14_ n15_
                clear hb hbox hg
                refine hK.out _ _ ⟨(blk_cell BK250.out 0).trans rfl, (blk_cell BK250.out 1).trans rfl, HS2_, HS3_, HS4_, HS5_⟩ (fun hHeld => ?_)
                clear hK K
                refine norm_ (a' := ?_) ?_ ?_
                rotate_left
                ·show Act.put _ (some 8) _ = _
                 simp only [Act.put, List.setIfInBounds_toArray, List.set_cons_zero, List.set_cons_succ, i64_w, i32_w]
                 rfl
                exact norm_ (by simp only [putAll, Act.put, List.setIfInBounds_toArray, List.set_cons_zero, List.set_cons_succ]) (hCont (gb261, gb262) _ ⟨hHeld, (by (with_reducible repeat (first | apply Kd.R_alloc | apply Kd.R_drewN | apply Kd.R_drew)); exact Kd.R_mono HO_251001.out (fun _ hk => ⟨hk.1.1.2, ⟨hk.1.1.1, ⟨hk.2, hk.1.2⟩⟩⟩)), (by (with_reducible repeat (first | apply Kd.R_alloc | apply Kd.R_drewN | apply Kd.R_drew)); exact Kd.R_mono HO_257001.out (fun _ hk => ⟨hk.1.1.2, ⟨hk.1.1.1, ⟨hk.2, hk.1.2⟩⟩⟩)), (by (with_reducible repeat (first | apply Kd.R_alloc | apply Kd.R_drewN | apply Kd.R_drew)); exact Kd.R_mono HO_6.out (fun _ hk => ⟨hk.1.1.1, ⟨hk.1.1.2, ⟨hk.2, hk.1.2⟩⟩⟩)), (by (with_reducible repeat (first | refine blk_drewN ?_ _ | refine blk_drew ?_ | refine blk_alloc ?_ _)); exact BK250.out), (by (with_reducible repeat (first | refine blk_drewN ?_ _ | refine blk_drew ?_ | refine blk_alloc ?_ _)); exact BK256.out), (by (with_reducible repeat (first | refine blk_drewN ?_ _ | refine blk_drew ?_ | refine blk_alloc ?_ _)); exact BK261.out), (by (with_reducible repeat (first | refine blk_drewN ?_ _ | refine blk_drew ?_ | refine blk_alloc ?_ _)); exact BK262.out), GW261.out, GE261.out, NB250_261.out, NB261_250.out, NB256_261.out, NB261_256.out, NB262_261.out, NB261_262.out, GW262.out, GE262.out, NB250_262.out, NB262_250.out, NB256_262.out, NB262_256.out, (by repeat (first | (with_reducible first | exact HB.out | apply below_alloc | apply pw_below_drewN | apply below_drew1 | refine below_set ?_ GE250.out | refine below_set ?_ GE256.out | refine below_set ?_ GE262.out | refine below_set ?_ GE261.out) | exact HB.out))⟩)
              rintro ⟨gb261, gb262⟩ w61 ⟨hS_, h0_, h1_, h2_, h3_, h4_, h5_, h6_, h7_, h8_, h9_, h10_, h11_, h12_, h13_, h14_, h15_, h16_, h17_, h18_, h19_, h20_, h21_⟩
              have n0_ : Aside0 (Kd.R k34 34 w61 w.heap.size (fun k_ => some k_ ≠ (.slice Ao37 t253.length co37 : Value).ownBlock ∧ some k_ ≠ (u6 : Value).ownBlock ∧ k_ ≠ gb261 ∧ k_ ≠ gb262) (.slice (some ad259) t246.length co29) t246) := ⟨h0_⟩
              have n1_ : Aside0 (Kd.R k34 34 w61 w.heap.size (fun k_ => some k_ ≠ (.slice (some ad259) t246.length co29 : Value).ownBlock ∧ some k_ ≠ (u6 : Value).ownBlock ∧ k_ ≠ gb261 ∧ k_ ≠ gb262) (.slice Ao37 t253.length co37) t253) := ⟨h1_⟩
              have n2_ : Aside0 (Kd.R k34 34 w61 w.heap.size (fun k_ => some k_ ≠ (.slice (some ad259) t246.length co29 : Value).ownBlock ∧ some k_ ≠ (.slice Ao37 t253.length co37 : Value).ownBlock ∧ k_ ≠ gb261 ∧ k_ ≠ gb262) u6 x6_2) := ⟨h2_⟩
              have n3_ : Aside0 (w61.heap[gb250]? = some (.cells #[.bool t245, .slice (some ad259) t246.length co29] 39 (0, 0))) := ⟨h3_⟩
              have n4_ : Aside0 (w61.heap[gb256]? = some (.cells #[.bool t252, .slice Ao37 t253.length co37] 39 (0, 0))) := ⟨h4_⟩
              have n5_ : Aside0 (w61.heap[gb261]? = some (.cells #[.int .i64 0, .int .i64 0] 34 (0, 0))) := ⟨h5_⟩
              have n6_ : Aside0 (w61.heap[gb262]? = some (.cells #[.int .i64 0, .int .i64 0] 34 (0, 0))) := ⟨h6_⟩
              have n7_ : Aside0 (w.heap.size ≤ gb261) := ⟨h7_⟩
              have n8_ : Aside0 (w.heap.size ≤ gb261) := ⟨h8_⟩
              have n9_ : Aside0 (gb250 ≠ gb261) := ⟨h9_⟩
              have n10_ : Aside0 (gb261 ≠ gb250) := ⟨h10_⟩
              have n11_ : Aside0 (gb256 ≠ gb261) := ⟨h11_⟩
              have n12_ : Aside0 (gb261 ≠ gb256) := ⟨h12_⟩
              have n13_ : Aside0 (gb262 ≠ gb261) := ⟨h13_⟩
              have n14_ : Aside0 (gb261 ≠ gb262) := ⟨h14_⟩
              have n15_ : Aside0 (w.heap.size ≤ gb262) := ⟨h15_⟩
              have n16_ : Aside0 (w.heap.size ≤ gb262) := ⟨h16_⟩
              have n17_ : Aside0 (gb250 ≠ gb262) := ⟨h17_⟩
              have n18_ : Aside0 (gb262 ≠ gb250) := ⟨h18_⟩
              have n19_ : Aside0 (gb256 ≠ gb262) := ⟨h19_⟩
              have n20_ : Aside0 (gb262 ≠ gb256) := ⟨h20_⟩
              have n21_ : Aside0 (Below w.heap.size w w61) := ⟨h21_⟩
              clear HO_6
              clear HO_251001
              clear HO_257001
              clear BK250
              clear BK256
              clear HB
              clear h0_ h1_ h2_ h3_ h4_ h5_ h6_ h7_ h8_ h9_ h10_ h11_ h12_ h13_ h14_ h15_ h16_ h17_ h18_ h19_ h20_ h21_
              have HO_251001 := n0_
              have HO_257001 := n1_
              have HO_6 := n2_
              have BK250 := n3_
              have BK256 := n4_
              have BK261 := n5_
              have BK262 := n6_
              have GW261 := n7_
              have GE261 := n8_
              have NB250_261 := n9_
              have NB261_250 := n10_
              have NB256_261 := n11_
              have NB261_256 := n12_
              have NB262_261 := n13_
              have NB261_262 := n14_
              have GW262 := n15_
              have GE262 := n16_
              have NB250_262 := n17_
              have NB262_250 := n18_
              have NB256_262 := n19_
              have NB262_256 := n20_
              have HB := n21_
              clear n0_ n1_ n2_ n3_ n4_ n5_ n6_ n7_ n8_ n9_ n10_ n11_ n12_ n13_ n14_ n15_ n16_ n17_ n18_ n19_ n20_ n21_
              have hHeld : w61.cell? ⟨gb250, 0, none⟩ = some (.bool t245) ∧ w61.cell? ⟨gb250, 1, none⟩ = some (.slice (some ad259) t246.length co29) ∧ w61.cell? (ad259.add ((x7_2).toNat * 2)) = some (.int .i64 ((rd_T34 t246 x7_2).f0)) ∧ w61.cell? ⟨(ad259.add ((x7_2).toNat * 2)).block, (ad259.add ((x7_2).toNat * 2)).off + 1, none⟩ = some (.int .i64 ((rd_T34 t246 x7_2).f1)) ∧ w61.cell? (ad259.add (((ji51)).toNat * 2)) = some (.int .i64 ((rd_T34 t246 (ji51)).f0)) ∧ w61.cell? ⟨(ad259.add (((ji51)).toNat * 2)).block, (ad259.add (((ji51)).toNat * 2)).off + 1, none⟩ = some (.int .i64 ((rd_T34 t246 (ji51)).f1)) := hS_
              refine norm_ (a' := ?_) ?_ ?_
              rotate_left
              ·simp only [putAll, Act.put, List.setIfInBounds_toArray, List.set_cons_zero, List.set_cons_succ]
               rfl
              refine one_ (i := 17) (N := none) #[true, true, true, true, true, true, true, true, true, true, true, true, true, true, true, true, true, true, false] rfl rfl (one_of HT_.out (by kernel_rfl)) (by decide) (fun K hK => ?_)
              have hs62 : w61.cell? ⟨gb261, 0, none⟩ = some (.int .i64 0) := (blk_cell BK261.out 0).trans rfl
              have hfs62 := blk_frozen BK261.out 0
              have hns62_0 := NB250_261.out
              have hns62_1 := NB256_261.out
              have hns62_3 := NB262_261.out
              have hms62_0 := NB261_250.out
              have hms62_1 := NB261_256.out
              have hms62_3 := NB261_262.out
              have hs63 : w61.cell? ⟨gb261, 1, none⟩ = some (.int .i64 0) := (blk_cell BK261.out 1).trans rfl
              have hfs63 := blk_frozen BK261.out 1
              have hns63_0 := NB250_261.out
              have hns63_1 := NB256_261.out
              have hns63_3 := NB262_261.out
              have hms63_0 := NB261_250.out
              have hms63_1 := NB261_256.out
              have hms63_3 := NB261_262.out
              refine skip_ (w1 := ?_) (by rfl) rfl ?_ ?_
              rotate_left
              ·go_simp
               rfl
              refine hK.out _ _ ⟨((cell_far (p := ⟨gb261, _, none⟩) NB250_261.out _).trans (((cell_far (p := ⟨gb261, _, none⟩) NB250_261.out _).trans (hHeld.1)))), ((cell_far (p := ⟨gb261, _, none⟩) NB250_261.out _).trans (((cell_far (p := ⟨gb261, _, none⟩) NB250_261.out _).trans (hHeld.2.1)))), ((cell_far (p := ⟨gb261, _, none⟩) (by first | exact Kd.own_blk (Kd.R_away HO_251001.out (fun _ hk => hk.2.2.1)) | (rw [add_block]; exact Kd.own_blk (Kd.R_away HO_251001.out (fun _ hk => hk.2.2.1))) | (show (Addr.add _ _).block ≠ _; rw [add_block]; exact Kd.own_blk (Kd.R_away HO_251001.out (fun _ hk => hk.2.2.1))) | (dsimp only; exact Kd.own_blk (Kd.R_away HO_251001.out (fun _ hk => hk.2.2.1)))) _).trans (((cell_far (p := ⟨gb261, _, none⟩) (by first | exact Kd.own_blk (Kd.R_away HO_251001.out (fun _ hk => hk.2.2.1)) | (rw [add_block]; exact Kd.own_blk (Kd.R_away HO_251001.out (fun _ hk => hk.2.2.1))) | (show (Addr.add _ _).block ≠ _; rw [add_block]; exact Kd.own_blk (Kd.R_away HO_251001.out (fun _ hk => hk.2.2.1))) | (dsimp only; exact Kd.own_blk (Kd.R_away HO_251001.out (fun _ hk => hk.2.2.1)))) _).trans (hHeld.2.2.1)))), ((cell_far (p := ⟨gb261, _, none⟩) (by first | exact Kd.own_blk (Kd.R_away HO_251001.out (fun _ hk => hk.2.2.1)) | (rw [add_block]; exact Kd.own_blk (Kd.R_away HO_251001.out (fun _ hk => hk.2.2.1))) | (show (Addr.add _ _).block ≠ _; rw [add_block]; exact Kd.own_blk (Kd.R_away HO_251001.out (fun _ hk => hk.2.2.1))) | (dsimp only; exact Kd.own_blk (Kd.R_away HO_251001.out (fun _ hk => hk.2.2.1)))) _).trans (((cell_far (p := ⟨gb261, _, none⟩) (by first | exact Kd.own_blk (Kd.R_away HO_251001.out (fun _ hk => hk.2.2.1)) | (rw [add_block]; exact Kd.own_blk (Kd.R_away HO_251001.out (fun _ hk => hk.2.2.1))) | (show (Addr.add _ _).block ≠ _; rw [add_block]; exact Kd.own_blk (Kd.R_away HO_251001.out (fun _ hk => hk.2.2.1))) | (dsimp only; exact Kd.own_blk (Kd.R_away HO_251001.out (fun _ hk => hk.2.2.1)))) _).trans (hHeld.2.2.2.1)))), ((cell_far (p := ⟨gb261, _, none⟩) (by first | exact Kd.own_blk (Kd.R_away HO_251001.out (fun _ hk => hk.2.2.1)) | (rw [add_block]; exact Kd.own_blk (Kd.R_away HO_251001.out (fun _ hk => hk.2.2.1))) | (show (Addr.add _ _).block ≠ _; rw [add_block]; exact Kd.own_blk (Kd.R_away HO_251001.out (fun _ hk => hk.2.2.1))) | (dsimp only; exact Kd.own_blk (Kd.R_away HO_251001.out (fun _ hk => hk.2.2.1)))) _).trans (((cell_far (p := ⟨gb261, _, none⟩) (by first | exact Kd.own_blk (Kd.R_away HO_251001.out (fun _ hk => hk.2.2.1)) | (rw [add_block]; exact Kd.own_blk (Kd.R_away HO_251001.out (fun _ hk => hk.2.2.1))) | (show (Addr.add _ _).block ≠ _; rw [add_block]; exact Kd.own_blk (Kd.R_away HO_251001.out (fun _ hk => hk.2.2.1))) | (dsimp only; exact Kd.own_blk (Kd.R_away HO_251001.out (fun _ hk => hk.2.2.1)))) _).trans (hHeld.2.2.2.2.1)))), ((cell_far (p := ⟨gb261, _, none⟩) (by first | exact Kd.own_blk (Kd.R_away HO_251001.out (fun _ hk => hk.2.2.1)) | (rw [add_block]; exact Kd.own_blk (Kd.R_away HO_251001.out (fun _ hk => hk.2.2.1))) | (show (Addr.add _ _).block ≠ _; rw [add_block]; exact Kd.own_blk (Kd.R_away HO_251001.out (fun _ hk => hk.2.2.1))) | (dsimp only; exact Kd.own_blk (Kd.R_away HO_251001.out (fun _ hk => hk.2.2.1)))) _).trans (((cell_far (p := ⟨gb261, _, none⟩) (by first | exact Kd.own_blk (Kd.R_away HO_251001.out (fun _ hk => hk.2.2.1)) | (rw [add_block]; exact Kd.own_blk (Kd.R_away HO_251001.out (fun _ hk => hk.2.2.1))) | (show (Addr.add _ _).block ≠ _; rw [add_block]; exact Kd.own_blk (Kd.R_away HO_251001.out (fun _ hk => hk.2.2.1))) | (dsimp only; exact Kd.own_blk (Kd.R_away HO_251001.out (fun _ hk => hk.2.2.1)))) _).trans (hHeld.2.2.2.2.2))))⟩ (fun hHeld => ?_)
              clear hK K
              refine one_ (i := 18) (N := none) #[true, true, true, true, true, true, true, true, true, true, true, true, true, true, true, true, true, true, true] rfl rfl (one_of HT_.out (by kernel_rfl)) (by decide) (fun K hK => ?_)
              have hs64 : w61.cell? ⟨gb262, 0, none⟩ = some (.int .i64 0) := (blk_cell BK262.out 0).trans rfl
              have hfs64 := blk_frozen BK262.out 0
              have hns64_0 := NB250_262.out
              have hns64_1 := NB256_262.out
              have hns64_2 := NB261_262.out
              have hms64_0 := NB262_250.out
              have hms64_1 := NB262_256.out
              have hms64_2 := NB262_261.out
              have hs65 : w61.cell? ⟨gb262, 1, none⟩ = some (.int .i64 0) := (blk_cell BK262.out 1).trans rfl
              have hfs65 := blk_frozen BK262.out 1
              have hns65_0 := NB250_262.out
              have hns65_1 := NB256_262.out
              have hns65_2 := NB261_262.out
              have hms65_0 := NB262_250.out
              have hms65_1 := NB262_256.out
              have hms65_2 := NB262_261.out
              refine skip_ (w1 := ?_) (by rfl) rfl ?_ ?_
              rotate_left
              ·go_simp
               rfl
              refine hK.out _ _ ⟨((cell_far (p := ⟨gb262, _, none⟩) NB250_262.out _).trans (((cell_far (p := ⟨gb262, _, none⟩) NB250_262.out _).trans (hHeld.1)))), ((cell_far (p := ⟨gb262, _, none⟩) NB250_262.out _).trans (((cell_far (p := ⟨gb262, _, none⟩) NB250_262.out _).trans (hHeld.2.1)))), ((cell_far (p := ⟨gb262, _, none⟩) (by first | exact Kd.own_blk (Kd.R_away HO_251001.out (fun _ hk => hk.2.2.2)) | (rw [add_block]; exact Kd.own_blk (Kd.R_away HO_251001.out (fun _ hk => hk.2.2.2))) | (show (Addr.add _ _).block ≠ _; rw [add_block]; exact Kd.own_blk (Kd.R_away HO_251001.out (fun _ hk => hk.2.2.2))) | (dsimp only; exact Kd.own_blk (Kd.R_away HO_251001.out (fun _ hk => hk.2.2.2)))) _).trans (((cell_far (p := ⟨gb262, _, none⟩) (by first | exact Kd.own_blk (Kd.R_away HO_251001.out (fun _ hk => hk.2.2.2)) | (rw [add_block]; exact Kd.own_blk (Kd.R_away HO_251001.out (fun _ hk => hk.2.2.2))) | (show (Addr.add _ _).block ≠ _; rw [add_block]; exact Kd.own_blk (Kd.R_away HO_251001.out (fun _ hk => hk.2.2.2))) | (dsimp only; exact Kd.own_blk (Kd.R_away HO_251001.out (fun _ hk => hk.2.2.2)))) _).trans (hHeld.2.2.1)))), ((cell_far (p := ⟨gb262, _, none⟩) (by first | exact Kd.own_blk (Kd.R_away HO_251001.out (fun _ hk => hk.2.2.2)) | (rw [add_block]; exact Kd.own_blk (Kd.R_away HO_251001.out (fun _ hk => hk.2.2.2))) | (show (Addr.add _ _).block ≠ _; rw [add_block]; exact Kd.own_blk (Kd.R_away HO_251001.out (fun _ hk => hk.2.2.2))) | (dsimp only; exact Kd.own_blk (Kd.R_away HO_251001.out (fun _ hk => hk.2.2.2)))) _).trans (((cell_far (p := ⟨gb262, _, none⟩) (by first | exact Kd.own_blk (Kd.R_away HO_251001.out (fun _ hk => hk.2.2.2)) | (rw [add_block]; exact Kd.own_blk (Kd.R_away HO_251001.out (fun _ hk => hk.2.2.2))) | (show (Addr.add _ _).block ≠ _; rw [add_block]; exact Kd.own_blk (Kd.R_away HO_251001.out (fun _ hk => hk.2.2.2))) | (dsimp only; exact Kd.own_blk (Kd.R_away HO_251001.out (fun _ hk => hk.2.2.2)))) _).trans (hHeld.2.2.2.1)))), ((cell_far (p := ⟨gb262, _, none⟩) (by first | exact Kd.own_blk (Kd.R_away HO_251001.out (fun _ hk => hk.2.2.2)) | (rw [add_block]; exact Kd.own_blk (Kd.R_away HO_251001.out (fun _ hk => hk.2.2.2))) | (show (Addr.add _ _).block ≠ _; rw [add_block]; exact Kd.own_blk (Kd.R_away HO_251001.out (fun _ hk => hk.2.2.2))) | (dsimp only; exact Kd.own_blk (Kd.R_away HO_251001.out (fun _ hk => hk.2.2.2)))) _).trans (((cell_far (p := ⟨gb262, _, none⟩) (by first | exact Kd.own_blk (Kd.R_away HO_251001.out (fun _ hk => hk.2.2.2)) | (rw [add_block]; exact Kd.own_blk (Kd.R_away HO_251001.out (fun _ hk => hk.2.2.2))) | (show (Addr.add _ _).block ≠ _; rw [add_block]; exact Kd.own_blk (Kd.R_away HO_251001.out (fun _ hk => hk.2.2.2))) | (dsimp only; exact Kd.own_blk (Kd.R_away HO_251001.out (fun _ hk => hk.2.2.2)))) _).trans (hHeld.2.2.2.2.1)))), ((cell_far (p := ⟨gb262, _, none⟩) (by first | exact Kd.own_blk (Kd.R_away HO_251001.out (fun _ hk => hk.2.2.2)) | (rw [add_block]; exact Kd.own_blk (Kd.R_away HO_251001.out (fun _ hk => hk.2.2.2))) | (show (Addr.add _ _).block ≠ _; rw [add_block]; exact Kd.own_blk (Kd.R_away HO_251001.out (fun _ hk => hk.2.2.2))) | (dsimp only; exact Kd.own_blk (Kd.R_away HO_251001.out (fun _ hk => hk.2.2.2)))) _).trans (((cell_far (p := ⟨gb262, _, none⟩) (by first | exact Kd.own_blk (Kd.R_away HO_251001.out (fun _ hk => hk.2.2.2)) | (rw [add_block]; exact Kd.own_blk (Kd.R_away HO_251001.out (fun _ hk => hk.2.2.2))) | (show (Addr.add _ _).block ≠ _; rw [add_block]; exact Kd.own_blk (Kd.R_away HO_251001.out (fun _ hk => hk.2.2.2))) | (dsimp only; exact Kd.own_blk (Kd.R_away HO_251001.out (fun _ hk => hk.2.2.2)))) _).trans (hHeld.2.2.2.2.2))))⟩ (fun hHeld => ?_)
              clear hK K
              refine done_ (done_of HT_.out (by kernel_rfl)) ?_
              have hnb66 := NB261_250.out
              have hnc66 := NB250_261.out
              have hnb67 := NB261_256.out
              have hnc67 := NB256_261.out
              have hnb68 := NB261_262.out
              have hnc68 := NB262_261.out
              have hcz69_0 : w61.cell? ⟨gb261, 0, none⟩ = some (.int .i64 0) := (blk_cell BK261.out 0).trans rfl
              have hcz69_1 : w61.cell? ⟨gb261, 1, none⟩ = some (.int .i64 0) := (blk_cell BK261.out 1).trans rfl
              have hfz69_0 := blk_frozen BK261.out 0
              have hfz69_1 := blk_frozen BK261.out 1
              have hnb70 := NB262_250.out
              have hnc70 := NB250_262.out
              have hnb71 := NB262_256.out
              have hnc71 := NB256_262.out
              have hcz72_0 : w61.cell? ⟨gb262, 0, none⟩ = some (.int .i64 0) := (blk_cell BK262.out 0).trans rfl
              have hcz72_1 : w61.cell? ⟨gb262, 1, none⟩ = some (.int .i64 0) := (blk_cell BK262.out 1).trans rfl
              have hfz72_0 := blk_frozen BK262.out 0
              have hfz72_1 := blk_frozen BK262.out 1
              try go_wp2
              go_roundg k2
              case measure => have := HJ22.out; have := HK2.out; omega
              case rel => exact ⟨(x6_2), (wrap64 (x7_2 + 1)), (by first | rfl | (simp; done) | (simp [*]; done)), H', ⟨by have := HJ22.out; have := HK2.out; omega⟩, ⟨by (with_reducible repeat (first | apply Kd.R_alloc | apply Kd.R_drewN | apply Kd.R_drew)); exact Kd.R_mono (Kd.R_far (p := ⟨gb262, 1, none⟩) (Kd.R_far (p := ⟨gb262, 0, none⟩) (Kd.R_far (p := ⟨gb261, 1, none⟩) (Kd.R_far (p := ⟨gb261, 0, none⟩) (Kd.R_mono (Kd.R_mono HO_6.out (fun k_ hk => (⟨hk, hk.2.2.1⟩ : _ ∧ k_ ≠ gb261))) (fun k_ hk => (⟨hk, hk.1.2.2.2⟩ : _ ∧ k_ ≠ gb262))) (fun _ hk => hk.1.2) (.int .i64 ((rd_T34 t246 x7_2).f0))) (fun _ hk => hk.1.2) (.int .i64 ((rd_T34 t246 x7_2).f1))) (fun _ hk => hk.2) (.int .i64 ((rd_T34 t246 (ji51)).f0))) (fun _ hk => hk.2) (.int .i64 ((rd_T34 t246 (ji51)).f1))) (fun _ hk => ⟨hk.1.1.1, hk.1.1.2.1⟩)⟩, ⟨by (with_reducible repeat (first | apply Kd.R_alloc | apply Kd.R_drewN | apply Kd.R_drew)); exact Kd.R_mono (Kd.R_far (p := ⟨gb262, 1, none⟩) (Kd.R_far (p := ⟨gb262, 0, none⟩) (Kd.R_far (p := ⟨gb261, 1, none⟩) (Kd.R_far (p := ⟨gb261, 0, none⟩) (Kd.R_mono (Kd.R_mono HO_251001.out (fun k_ hk => (⟨hk, hk.2.2.1⟩ : _ ∧ k_ ≠ gb261))) (fun k_ hk => (⟨hk, hk.1.2.2.2⟩ : _ ∧ k_ ≠ gb262))) (fun _ hk => hk.1.2) (.int .i64 ((rd_T34 t246 x7_2).f0))) (fun _ hk => hk.1.2) (.int .i64 ((rd_T34 t246 x7_2).f1))) (fun _ hk => hk.2) (.int .i64 ((rd_T34 t246 (ji51)).f0))) (fun _ hk => hk.2) (.int .i64 ((rd_T34 t246 (ji51)).f1))) (fun _ hk => ⟨hk.1.1.2.1, hk.1.1.1⟩)⟩, ⟨by (with_reducible repeat (first | apply Kd.R_alloc | apply Kd.R_drewN | apply Kd.R_drew)); exact Kd.R_mono (Kd.R_far (p := ⟨gb262, 1, none⟩) (Kd.R_far (p := ⟨gb262, 0, none⟩) (Kd.R_far (p := ⟨gb261, 1, none⟩) (Kd.R_far (p := ⟨gb261, 0, none⟩) (Kd.R_mono (Kd.R_mono HO_257001.out (fun k_ hk => (⟨hk, hk.2.2.1⟩ : _ ∧ k_ ≠ gb261))) (fun k_ hk => (⟨hk, hk.1.2.2.2⟩ : _ ∧ k_ ≠ gb262))) (fun _ hk => hk.1.2) (.int .i64 ((rd_T34 t246 x7_2).f0))) (fun _ hk => hk.1.2) (.int .i64 ((rd_T34 t246 x7_2).f1))) (fun _ hk => hk.2) (.int .i64 ((rd_T34 t246 (ji51)).f0))) (fun _ hk => hk.2) (.int .i64 ((rd_T34 t246 (ji51)).f1))) (fun _ hk => ⟨hk.1.1.2.1, hk.1.1.1⟩)⟩, ⟨by (with_reducible repeat (first | refine blk_drewN ?_ _ | refine blk_drew ?_ | refine blk_alloc ?_ _)); refine blk_far ?_ NB250_262.out _; (with_reducible repeat (first | refine blk_drewN ?_ _ | refine blk_drew ?_ | refine blk_alloc ?_ _)); refine blk_far ?_ NB250_262.out _; (with_reducible repeat (first | refine blk_drewN ?_ _ | refine blk_drew ?_ | refine blk_alloc ?_ _)); refine blk_far ?_ NB250_261.out _; (with_reducible repeat (first | refine blk_drewN ?_ _ | refine blk_drew ?_ | refine blk_alloc ?_ _)); refine blk_far ?_ NB250_261.out _; (with_reducible repeat (first | refine blk_drewN ?_ _ | refine blk_drew ?_ | refine blk_alloc ?_ _)); exact BK250.out⟩, ⟨by (with_reducible repeat (first | refine blk_drewN ?_ _ | refine blk_drew ?_ | refine blk_alloc ?_ _)); refine blk_far ?_ NB256_262.out _; (with_reducible repeat (first | refine blk_drewN ?_ _ | refine blk_drew ?_ | refine blk_alloc ?_ _)); refine blk_far ?_ NB256_262.out _; (with_reducible repeat (first | refine blk_drewN ?_ _ | refine blk_drew ?_ | refine blk_alloc ?_ _)); refine blk_far ?_ NB256_261.out _; (with_reducible repeat (first | refine blk_drewN ?_ _ | refine blk_drew ?_ | refine blk_alloc ?_ _)); refine blk_far ?_ NB256_261.out _; (with_reducible repeat (first | refine blk_drewN ?_ _ | refine blk_drew ?_ | refine blk_alloc ?_ _)); exact BK256.out⟩, ⟨by repeat (first | (with_reducible first | exact HB.out | apply below_alloc | apply pw_below_drewN | apply below_drew1 | refine below_set ?_ GE250.out | refine below_set ?_ GE256.out | refine below_set ?_ GE261.out | refine below_set ?_ GE262.out) | exact HB.out)⟩⟩
             ·rw [if_neg c54] at H
              have c54b0 : (((rd_T34 t246 x7_2).f0) == ((rd_T34 t246 (ji51)).f0) && (((rd_T34 t246 x7_2).f1) == ((rd_T34 t246 (ji51)).f1))) = false := by simpa using c54
              (try (have c54b1 : decide (((rd_T34 t246 x7_2).f0) = ((rd_T34 t246 (ji51)).f0) && (((rd_T34 t246 x7_2).f1) == ((rd_T34 t246 (ji51)).f1))) = false := by simpa using c54))
              (try (have c54b2 : (((rd_T34 t246 x7_2).f0) == ((rd_T34 t246 (ji51)).f0) && (((rd_T34 t246 x7_2).f1) == ((rd_T34 t246 (ji51)).f1))) = false := by simpa using c54))
              (try (have c54b3 : ¬ (((rd_T34 t246 x7_2).f0) = ((rd_T34 t246 (ji51)).f0) && (((rd_T34 t246 x7_2).f1) == ((rd_T34 t246 (ji51)).f1))) := by simpa using c54))
              clear c54
              have HC73 := Aside0.mk H
              clear H
              have hnb74 := NB250_256.out
              have hnc74 := NB256_250.out
              have hcz75_0 : wr.cell? ⟨gb250, 0, none⟩ = some (.bool t245) := (blk_cell BK250.out 0).trans rfl
              have hcz75_1 : wr.cell? ⟨gb250, 1, none⟩ = some (.slice Ao29 t246.length co29) := (blk_cell BK250.out 1).trans rfl
              have hfz75_0 := blk_frozen BK250.out 0
              have hfz75_1 := blk_frozen BK250.out 1
              try go_wp2_with (first | ((with_reducible refine gate_callee (f := 26) rfl ?_); refine goesL_ (some 38) rfl rfl Try.func26 (by kernel_rfl) rfl #[.agg #[.bool t245, .slice Ao29 t246.length co29]] rfl (by (try simp only [List.map_toArray, List.map_cons, List.map_nil]); first | done | rfl | (simp only [List.length_drop, List.length_take]; rfl)) ?_; (with_reducible refine (arc_Sides.calls t245 _ _ t246 t258 _ ?side1 ?side2 A46.out).mono ?_); (case side1 => repeat (first | exact (Kd.R_reads' HO_251001.out).2.2 | (with_reducible refine Kd.C_alloc ?_ _) | (with_reducible refine Kd.C_drewN ?_ _) | (with_reducible refine Kd.C_drew ?_))); (case side2 => exact (Kd.R_reads' HO_251001.out).2.1); rintro e w76 ⟨rfl, hb⟩; refine ⟨_, rfl, ?_⟩; have n0_ := Aside0.mk (Kd.R_below (by (with_reducible repeat (first | apply Kd.R_alloc | apply Kd.R_drewN | apply Kd.R_drew)); exact HO_6.out) hb); have n1_ := Aside0.mk (Kd.R_below (by (with_reducible repeat (first | apply Kd.R_alloc | apply Kd.R_drewN | apply Kd.R_drew)); exact HO_251001.out) hb); have n2_ := Aside0.mk (Kd.R_below (by (with_reducible repeat (first | apply Kd.R_alloc | apply Kd.R_drewN | apply Kd.R_drew)); exact HO_257001.out) hb); have n3_ := Aside0.mk (blk_below (g := gb250) (o := .cells #[.bool t245, .slice Ao29 t246.length co29] 39 (0, 0)) (by (with_reducible repeat (first | refine blk_drewN ?_ _ | refine blk_drew ?_ | refine blk_alloc ?_ _)); exact BK250.out) hb); have n4_ := Aside0.mk (blk_below (g := gb256) (o := .cells #[.bool t252, .slice Ao37 t253.length co37] 39 (0, 0)) (by (with_reducible repeat (first | refine blk_drewN ?_ _ | refine blk_drew ?_ | refine blk_alloc ?_ _)); exact BK256.out) hb); have n5_ := Aside0.mk (below_step (by repeat (first | (with_reducible first | exact HB.out | apply below_alloc | apply pw_below_drewN | apply below_drew1 | refine below_set ?_ GE250.out | refine below_set ?_ GE256.out) | exact HB.out)) hb); clear HO_6; clear HO_251001; clear HO_257001; clear BK250; clear BK256; clear HB; have HO_6 := n0_; have HO_251001 := n1_; have HO_257001 := n2_; have BK250 := n3_; have BK256 := n4_; have HB := n5_; clear n0_ n1_ n2_ n3_ n4_ n5_; (try clear hb); (try clear hb2); (try clear hk); (try clear hi)))
              have n0_ := Aside0.mk (Kd.R_drew HO_6.out)
              have n1_ := Aside0.mk (Kd.R_drew HO_251001.out)
              have n2_ := Aside0.mk (Kd.R_drew HO_257001.out)
              have n3_ := Aside0.mk (blk_drew BK250.out)
              have n4_ := Aside0.mk (blk_drew BK256.out)
              have n5_ := Aside0.mk (below_drew1 HB.out)
              clear HO_6
              clear HO_251001
              clear HO_257001
              clear BK250
              clear BK256
              clear HB
              have HO_6 := n0_
              have HO_251001 := n1_
              have HO_257001 := n2_
              have BK250 := n3_
              have BK256 := n4_
              have HB := n5_
              clear n0_ n1_ n2_ n3_ n4_ n5_
              have p259 : 0 ≤ (x7_2 : Int) := of_decide_eq_true (by first | (with_reducible assumption) | assumption)
              have q259 : x7_2 < (t246.length : Int) := of_decide_eq_true (by first | (with_reducible assumption) | assumption)
              obtain ⟨ad259, e259, hx259_0, hx259_1⟩ := at_T34 (Kd.R_reads' HO_251001.out).2.2 x7_2 p259 q259
              cases e259
              replace p259 := eq_true p259
              replace q259 := eq_true q259
              have p260 : 0 ≤ ((ji51) : Int) := of_decide_eq_true (by first | (with_reducible assumption) | assumption)
              have q260 : (ji51) < (t246.length : Int) := of_decide_eq_true (by first | (with_reducible assumption) | assumption)
              obtain ⟨ad260, e260, hx260_0, hx260_1⟩ := at_T34 (Kd.R_reads' HO_251001.out).2.2 (ji51) p260 q260
              obtain rfl : ad259 = ad260 := (by injection e260)
              replace p260 := eq_true p260
              replace q260 := eq_true q260
              refine start_ (n := 19) (S := fun w' => w'.cell? ⟨gb250, 0, none⟩ = some (.bool t245) ∧ w'.cell? ⟨gb250, 1, none⟩ = some (.slice (some ad259) t246.length co29) ∧ w'.cell? (ad259.add ((x7_2).toNat * 2)) = some (.int .i64 ((rd_T34 t246 x7_2).f0)) ∧ w'.cell? ⟨(ad259.add ((x7_2).toNat * 2)).block, (ad259.add ((x7_2).toNat * 2)).off + 1, none⟩ = some (.int .i64 ((rd_T34 t246 x7_2).f1)) ∧ w'.cell? (ad259.add (((ji51)).toNat * 2)) = some (.int .i64 ((rd_T34 t246 (ji51)).f0)) ∧ w'.cell? ⟨(ad259.add (((ji51)).toNat * 2)).block, (ad259.add (((ji51)).toNat * 2)).off + 1, none⟩ = some (.int .i64 ((rd_T34 t246 (ji51)).f1))) (ds := []) #[false, false, false, false, false, false, false, false, false, false, false, false, false, false, false, false, false, false, false] (by kernel_rfl) rfl rfl ⟨(blk_cell BK250.out 0).trans rfl, (blk_cell BK250.out 1).trans rfl, hx259_0, hx259_1, hx260_0, hx260_1⟩ (fun hHeld => ?_); refine with_tabW mutoscopelaw9_ArcWhole.tab12 mutoscopelaw9_ArcWhole.bits12 (fun HT_ HW_ => ?_)
              generalize w76.drew = w77 at HO_6 HO_251001 HO_257001 BK250 BK256 HB hx259_0 hx259_1 hx260_0 hx260_1 hHeld ⊢
              refine pure_ (i := 0) (N := some 42) (v := ?_) (a' := ?_) #[true, false, false, false, false, false, false, false, false, false, false, false, false, false, false, false, false, false, false] rfl rfl (any_of HT_.out (by kernel_rfl)) (fun _ _ _ h => h) (Or.inl ⟨by rfl, ?_⟩) ?_ ?_
              rotate_left
              ·intro w'
               go_simp
               with_reducible rfl
              rotate_left
              ·simp only [Act.put, List.setIfInBounds_toArray, List.set_cons_zero, List.set_cons_succ, i64_w, i32_w]
               rfl
              refine pure_ (i := 2) (N := some 44) (v := ?_) (a' := ?_) #[true, false, true, false, false, false, false, false, false, false, false, false, false, false, false, false, false, false, false] rfl rfl (any_of HT_.out (by kernel_rfl)) (fun _ _ _ h => h) (Or.inl ⟨by rfl, ?_⟩) ?_ ?_
              rotate_left
              ·intro w'
               go_simp
               with_reducible rfl
              rotate_left
              ·simp only [Act.put, List.setIfInBounds_toArray, List.set_cons_zero, List.set_cons_succ, i64_w, i32_w]
               rfl
              refine pure_ (i := 5) (N := some 47) (v := ?_) (a' := ?_) #[true, false, true, false, false, true, false, false, false, false, false, false, false, false, false, false, false, false, false] rfl rfl (any_of HT_.out (by kernel_rfl)) (fun _ _ _ h => h) (Or.inl ⟨by rfl, ?_⟩) ?_ ?_
              rotate_left
              ·intro w'
               go_simp
               with_reducible rfl
              rotate_left
              ·simp only [Act.put, List.setIfInBounds_toArray, List.set_cons_zero, List.set_cons_succ, i64_w, i32_w]
               rfl
              refine pure_ (i := 7) (N := some 49) (v := ?_) (a' := ?_) #[true, false, true, false, false, true, false, true, false, false, false, false, false, false, false, false, false, false, false] rfl rfl (any_of HT_.out (by kernel_rfl)) (fun _ _ _ h => h) (Or.inl ⟨by rfl, ?_⟩) ?_ ?_
              rotate_left
              ·intro w'
               go_simp
               with_reducible rfl
              rotate_left
              ·simp only [Act.put, List.setIfInBounds_toArray, List.set_cons_zero, List.set_cons_succ, i64_w, i32_w]
               rfl
              refine pure_ (i := 8) (N := some 50) (v := ?_) (a' := ?_) #[true, false, true, false, false, true, false, true, true, false, false, false, false, false, false, false, false, false, false] rfl rfl (any_of HT_.out (by kernel_rfl)) (fun _ _ _ h => h) (Or.inl ⟨by rfl, ?_⟩) ?_ ?_
              rotate_left
              ·intro w'
               go_simp
               with_reducible rfl
              rotate_left
              ·simp only [Act.put, List.setIfInBounds_toArray, List.set_cons_zero, List.set_cons_succ, i64_w, i32_w]
               rfl
              refine pure_ (i := 9) (N := some 51) (v := ?_) (a' := ?_) #[true, false, true, false, false, true, false, true, true, true, false, false, false, false, false, false, false, false, false] rfl rfl (any_of HT_.out (by kernel_rfl)) (fun _ _ _ h => h) (Or.inl ⟨by rfl, ?_⟩) ?_ ?_
              rotate_left
              ·intro w'
               go_simp
               with_reducible rfl
              rotate_left
              ·simp only [Act.put, List.setIfInBounds_toArray, List.set_cons_zero, List.set_cons_succ, i64_w, i32_w]
               rfl
              refine take_ (i := 1) (N := some 43) (v := ?_) (a' := ?_) #[true, true, true, false, false, true, false, true, true, true, false, false, false, false, false, false, false, false, false] rfl rfl (take_ofW HT_.out HW_.out (by kernel_rfl)) (fun _ _ _ h => h) (Or.inl ⟨by rfl, ?_⟩) hHeld ?_ ?_
              rotate_left
              ·rintro w' ⟨s0, s1, s2, s3, s4, s5⟩
               go_simp
               with_reducible rfl
              rotate_left
              ·simp only [Act.put, List.setIfInBounds_toArray, List.set_cons_zero, List.set_cons_succ, i64_w, i32_w]
               rfl
              refine pure_ (i := 3) (N := some 45) (v := ?_) (a' := ?_) #[true, true, true, true, false, true, false, true, true, true, false, false, false, false, false, false, false, false, false] rfl rfl (any_of HT_.out (by kernel_rfl)) (fun _ _ _ h => h) (Or.inl ⟨by rfl, ?_⟩) ?_ ?_
              rotate_left
              ·intro w'
               go_simp
               with_reducible rfl
              rotate_left
              ·simp only [Act.put, List.setIfInBounds_toArray, List.set_cons_zero, List.set_cons_succ, i64_w, i32_w]
               rfl
              refine take_ (i := 4) (N := some 46) (v := ?_) (a' := ?_) #[true, true, true, true, true, true, false, true, true, true, false, false, false, false, false, false, false, false, false] rfl rfl (take_ofW HT_.out HW_.out (by kernel_rfl)) (fun _ _ _ h => h) (Or.inl ⟨by rfl, ?_⟩) hHeld ?_ ?_
              rotate_left
              ·rintro w' ⟨s0, s1, s2, s3, s4, s5⟩
               go_simp
               with_reducible rfl
              rotate_left
              ·simp only [Act.put, List.setIfInBounds_toArray, List.set_cons_zero, List.set_cons_succ, i64_w, i32_w]
               rfl
              refine take_ (i := 6) (N := some 48) (v := ?_) (a' := ?_) #[true, true, true, true, true, true, true, true, true, true, false, false, false, false, false, false, false, false, false] rfl rfl (take_ofW HT_.out HW_.out (by kernel_rfl)) (fun _ _ _ h => h) (Or.inl ⟨by rfl, ?_⟩) hHeld ?_ ?_
              rotate_left
              ·rintro w' ⟨s0, s1, s2, s3, s4, s5⟩
               go_simp
               with_reducible rfl
              rotate_left
              ·simp only [Act.put, List.setIfInBounds_toArray, List.set_cons_zero, List.set_cons_succ, i64_w, i32_w]
               rfl
              refine take_ (i := 10) (N := some 52) (v := ?_) (a' := ?_) #[true, true, true, true, true, true, true, true, true, true, true, false, false, false, false, false, false, false, false] rfl rfl (take_ofW HT_.out HW_.out (by kernel_rfl)) (fun _ _ _ h => h) (Or.inl ⟨by rfl, ?_⟩) hHeld ?_ ?_
              rotate_left
              ·rintro w' ⟨s0, s1, s2, s3, s4, s5⟩
               go_simp
               with_reducible rfl
              rotate_left
              ·simp only [Act.put, List.setIfInBounds_toArray, List.set_cons_zero, List.set_cons_succ, i64_w, i32_w]
               rfl
              refine pure_ (i := 11) (N := some 53) (v := ?_) (a' := ?_) #[true, true, true, true, true, true, true, true, true, true, true, true, false, false, false, false, false, false, false] rfl rfl (any_of HT_.out (by kernel_rfl)) (fun _ _ _ h => h) (Or.inl ⟨by rfl, ?_⟩) ?_ ?_
              rotate_left
              ·intro w'
               go_simp
               with_reducible rfl
              rotate_left
              ·simp only [Act.put, List.setIfInBounds_toArray, List.set_cons_zero, List.set_cons_succ, i64_w, i32_w]
               rfl
              refine pure_ (i := 12) (N := some 54) (v := ?_) (a' := ?_) #[true, true, true, true, true, true, true, true, true, true, true, true, true, false, false, false, false, false, false] rfl rfl (any_of HT_.out (by kernel_rfl)) (fun _ _ _ h => h) (Or.inl ⟨by rfl, ?_⟩) ?_ ?_
              rotate_left
              ·intro w'
               go_simp
               with_reducible rfl
              rotate_left
              ·simp only [Act.put, List.setIfInBounds_toArray, List.set_cons_zero, List.set_cons_succ, i64_w, i32_w]
               rfl
              refine pure_ (i := 13) (N := some 55) (v := ?_) (a' := ?_) #[true, true, true, true, true, true, true, true, true, true, true, true, true, true, false, false, false, false, false] rfl rfl (any_of HT_.out (by kernel_rfl)) (fun _ _ _ h => h) (Or.inl ⟨by rfl, ?_⟩) ?_ ?_
              rotate_left
              ·intro w'
               go_simp
               with_reducible rfl
              rotate_left
              ·simp only [Act.put, List.setIfInBounds_toArray, List.set_cons_zero, List.set_cons_succ, i64_w, i32_w]
               rfl
              refine take_ (i := 14) (N := some 56) (v := ?_) (a' := ?_) #[true, true, true, true, true, true, true, true, true, true, true, true, true, true, true, false, false, false, false] rfl rfl (take_ofW HT_.out HW_.out (by kernel_rfl)) (fun _ _ _ h => h) (Or.inl ⟨by rfl, ?_⟩) hHeld ?_ ?_
              rotate_left
              ·rintro w' ⟨s0, s1, s2, s3, s4, s5⟩
               go_simp
               with_reducible rfl
              rotate_left
              ·simp only [Act.put, List.setIfInBounds_toArray, List.set_cons_zero, List.set_cons_succ, i64_w, i32_w]
               rfl
              refine join_ (σ := Nat × Nat) 2 #[true, true, true, true, true, true, true, true, true, true, true, true, true, true, true, true, true, false, false] (fun s_ => [(8, .pointer (some ⟨s_.1, 0, none⟩)), (9, .pointer (some ⟨s_.2, 0, none⟩))]) (fun s_ w' => (w'.cell? ⟨gb250, 0, none⟩ = some (.bool t245) ∧ w'.cell? ⟨gb250, 1, none⟩ = some (.slice (some ad259) t246.length co29) ∧ w'.cell? (ad259.add ((x7_2).toNat * 2)) = some (.int .i64 ((rd_T34 t246 x7_2).f0)) ∧ w'.cell? ⟨(ad259.add ((x7_2).toNat * 2)).block, (ad259.add ((x7_2).toNat * 2)).off + 1, none⟩ = some (.int .i64 ((rd_T34 t246 x7_2).f1)) ∧ w'.cell? (ad259.add (((ji51)).toNat * 2)) = some (.int .i64 ((rd_T34 t246 (ji51)).f0)) ∧ w'.cell? ⟨(ad259.add (((ji51)).toNat * 2)).block, (ad259.add (((ji51)).toNat * 2)).off + 1, none⟩ = some (.int .i64 ((rd_T34 t246 (ji51)).f1))) ∧ (Kd.R k34 34 w' w.heap.size (fun k_ => some k_ ≠ (.slice Ao37 t253.length co37 : Value).ownBlock ∧ some k_ ≠ (u6 : Value).ownBlock ∧ k_ ≠ s_.1 ∧ k_ ≠ s_.2) (.slice (some ad259) t246.length co29) t246) ∧ (Kd.R k34 34 w' w.heap.size (fun k_ => some k_ ≠ (.slice (some ad259) t246.length co29 : Value).ownBlock ∧ some k_ ≠ (u6 : Value).ownBlock ∧ k_ ≠ s_.1 ∧ k_ ≠ s_.2) (.slice Ao37 t253.length co37) t253) ∧ (Kd.R k34 34 w' w.heap.size (fun k_ => some k_ ≠ (.slice (some ad259) t246.length co29 : Value).ownBlock ∧ some k_ ≠ (.slice Ao37 t253.length co37 : Value).ownBlock ∧ k_ ≠ s_.1 ∧ k_ ≠ s_.2) u6 x6_2) ∧ (w'.heap[gb250]? = some (.cells #[.bool t245, .slice (some ad259) t246.length co29] 39 (0, 0))) ∧ (w'.heap[gb256]? = some (.cells #[.bool t252, .slice Ao37 t253.length co37] 39 (0, 0))) ∧ (w'.heap[s_.1]? = some (.cells #[.int .i64 0, .int .i64 0] 34 (0, 0))) ∧ (w'.heap[s_.2]? = some (.cells #[.int .i64 0, .int .i64 0] 34 (0, 0))) ∧ (w.heap.size ≤ s_.1) ∧ (w.heap.size ≤ s_.1) ∧ (gb250 ≠ s_.1) ∧ (s_.1 ≠ gb250) ∧ (gb256 ≠ s_.1) ∧ (s_.1 ≠ gb256) ∧ (s_.2 ≠ s_.1) ∧ (s_.1 ≠ s_.2) ∧ (w.heap.size ≤ s_.2) ∧ (w.heap.size ≤ s_.2) ∧ (gb250 ≠ s_.2) ∧ (s_.2 ≠ gb250) ∧ (gb256 ≠ s_.2) ∧ (s_.2 ≠ gb256) ∧ (Below w.heap.size w w')) ?_ ?_
              rotate_left
              ·intro hCont
               refine two_ (i := 15) (j := 16) (Ni := some 8) (Nj := some 9) #[true, true, true, true, true, true, true, true, true, true, true, true, true, true, true, true, false, false, false] #[true, true, true, true, true, true, true, true, true, true, true, true, true, true, true, false, true, false, false] rfl rfl rfl rfl (two_of HT_.out (by kernel_rfl)) (by decide) (by decide) (fun K hK => ?_) (fun K hK => ?_)
               ·skip
                refine box_step ?hg (N := 8) ?hd (cs := #[.int .i64 0, .int .i64 0]) (t := 34) ?hr ?_; (case hd => rfl); (case hg => rfl); (case hr => first | (go_simp; done) | (go_simp; rfl))
                intro gb261 hg w78 hbox hb
                have HS2_ := (hb.cell (World.block_lt_of_cell? _ _ (hHeld.2.2.1))).trans (hHeld.2.2.1)
                have HS3_ := (hb.cell (World.block_lt_of_cell? _ _ (hHeld.2.2.2.1))).trans (hHeld.2.2.2.1)
                have HS4_ := (hb.cell (World.block_lt_of_cell? _ _ (hHeld.2.2.2.2.1))).trans (hHeld.2.2.2.2.1)
                have HS5_ := (hb.cell (World.block_lt_of_cell? _ _ (hHeld.2.2.2.2.2))).trans (hHeld.2.2.2.2.2)
                have n0_ := Aside0.mk (Kd.R_below (Kd.R_elderB (by (with_reducible repeat (first | apply Kd.R_alloc | apply Kd.R_drewN | apply Kd.R_drew)); exact HO_6.out) gb261 (Nat.le_of_eq hg.symm)) hb)
                have n1_ := Aside0.mk (Kd.R_below (Kd.R_elderB (by (with_reducible repeat (first | apply Kd.R_alloc | apply Kd.R_drewN | apply Kd.R_drew)); exact HO_251001.out) gb261 (Nat.le_of_eq hg.symm)) hb)
                have n2_ := Aside0.mk (Kd.R_below (Kd.R_elderB (by (with_reducible repeat (first | apply Kd.R_alloc | apply Kd.R_drewN | apply Kd.R_drew)); exact HO_257001.out) gb261 (Nat.le_of_eq hg.symm)) hb)
                have n3_ := Aside0.mk (blk_below (g := gb250) (o := .cells #[.bool t245, .slice (some ad259) t246.length co29] 39 (0, 0)) (by (with_reducible repeat (first | refine blk_drewN ?_ _ | refine blk_drew ?_ | refine blk_alloc ?_ _)); exact BK250.out) hb)
                have n4_ := Aside0.mk (blk_below (g := gb256) (o := .cells #[.bool t252, .slice Ao37 t253.length co37] 39 (0, 0)) (by (with_reducible repeat (first | refine blk_drewN ?_ _ | refine blk_drew ?_ | refine blk_alloc ?_ _)); exact BK256.out) hb)
                have n5_ := Aside0.mk (below_step (by repeat (first | (with_reducible first | exact HB.out | apply below_alloc | apply pw_below_drewN | apply below_drew1 | refine below_set ?_ GE250.out | refine below_set ?_ GE256.out) | exact HB.out)) hb)
                have n6_ := Aside0.mk (hbox)
                have n7_ := Aside0.mk ((by rw [hg]; exact (below_size (by repeat (first | (with_reducible first | exact HB.out | apply below_alloc | apply pw_below_drewN | apply below_drew1 | refine below_set ?_ GE250.out | refine below_set ?_ GE256.out) | exact HB.out))) : w.heap.size ≤ gb261))
                have n8_ := Aside0.mk ((by rw [hg]; exact (below_size (by repeat (first | (with_reducible first | exact HB.out | apply below_alloc | apply pw_below_drewN | apply below_drew1 | refine below_set ?_ GE250.out | refine below_set ?_ GE256.out) | exact HB.out))) : w.heap.size ≤ gb261))
                have n9_ := Aside0.mk ((by rw [hg]; exact Nat.ne_of_lt (blk_lt (g := gb250) (o := .cells #[.bool t245, .slice (some ad259) t246.length co29] 39 (0, 0)) (by (with_reducible repeat (first | refine blk_drewN ?_ _ | refine blk_drew ?_ | refine blk_alloc ?_ _)); exact BK250.out)) : gb250 ≠ gb261))
                have n10_ := Aside0.mk ((by rw [hg]; exact Nat.ne_of_gt (blk_lt (g := gb250) (o := .cells #[.bool t245, .slice (some ad259) t246.length co29] 39 (0, 0)) (by (with_reducible repeat (first | refine blk_drewN ?_ _ | refine blk_drew ?_ | refine blk_alloc ?_ _)); exact BK250.out)) : gb261 ≠ gb250))
                have n11_ := Aside0.mk ((by rw [hg]; exact Nat.ne_of_lt (blk_lt (g := gb256) (o := .cells #[.bool t252, .slice Ao37 t253.length co37] 39 (0, 0)) (by (with_reducible repeat (first | refine blk_drewN ?_ _ | refine blk_drew ?_ | refine blk_alloc ?_ _)); exact BK256.out)) : gb256 ≠ gb261))
                have n12_ := Aside0.mk ((by rw [hg]; exact Nat.ne_of_gt (blk_lt (g := gb256) (o := .cells #[.bool t252, .slice Ao37 t253.length co37] 39 (0, 0)) (by (with_reducible repeat (first | refine blk_drewN ?_ _ | refine blk_drew ?_ | refine blk_alloc ?_ _)); exact BK256.out)) : gb261 ≠ gb256))
                clear HO_6
                clear HO_251001
                clear HO_257001
                clear BK250
                clear BK256
                clear HB
                have HO_6 := n0_
                have HO_251001 := n1_
                have HO_257001 := n2_
                have BK250 := n3_
                have BK256 := n4_
                have HB := n5_
                have BK261 := n6_
                have GW261 := n7_
                have GE261 := n8_
                have NB250_261 := n9_
                have NB261_250 := n10_
                have NB256_261 := n11_
                have NB261_256 := n12_
                clear n0_ n1_ n2_ n3_ n4_ n5_ n6_ n7_ n8_ n9_ n10_ n11_ n12_
                clear hb hbox hg
                refine hK.out _ _ ⟨(blk_cell BK250.out 0).trans rfl, (blk_cell BK250.out 1).trans rfl, HS2_, HS3_, HS4_, HS5_⟩ (fun hHeld => ?_)
                clear hK K
                refine norm_ (a' := ?_) ?_ ?_
                rotate_left
                ·show Act.put _ (some 8) _ = _
                 simp only [Act.put, List.setIfInBounds_toArray, List.set_cons_zero, List.set_cons_succ, i64_w, i32_w]
                 rfl
                refine one_ (i := 16) (N := some 9) #[true, true, true, true, true, true, true, true, true, true, true, true, true, true, true, true, true, false, false] rfl rfl (one_of HT_.out (by kernel_rfl)) (by decide) (fun K hK => ?_)
                refine box_step ?hg (N := 9) ?hd (cs := #[.int .i64 0, .int .i64 0]) (t := 34) ?hr ?_; (case hd => rfl); (case hg => rfl); (case hr => first | (go_simp; done) | (go_simp; rfl))
                intro gb262 hg w79 hbox hb
                have HS2_ := (hb.cell (World.block_lt_of_cell? _ _ (hHeld.2.2.1))).trans (hHeld.2.2.1)
                have HS3_ := (hb.cell (World.block_lt_of_cell? _ _ (hHeld.2.2.2.1))).trans (hHeld.2.2.2.1)
                have HS4_ := (hb.cell (World.block_lt_of_cell? _ _ (hHeld.2.2.2.2.1))).trans (hHeld.2.2.2.2.1)
                have HS5_ := (hb.cell (World.block_lt_of_cell? _ _ (hHeld.2.2.2.2.2))).trans (hHeld.2.2.2.2.2)
                have n0_ := Aside0.mk (Kd.R_below (Kd.R_elderB (by (with_reducible repeat (first | apply Kd.R_alloc | apply Kd.R_drewN | apply Kd.R_drew)); exact HO_6.out) gb262 (Nat.le_of_eq hg.symm)) hb)
                have n1_ := Aside0.mk (Kd.R_below (Kd.R_elderB (by (with_reducible repeat (first | apply Kd.R_alloc | apply Kd.R_drewN | apply Kd.R_drew)); exact HO_251001.out) gb262 (Nat.le_of_eq hg.symm)) hb)
                have n2_ := Aside0.mk (Kd.R_below (Kd.R_elderB (by (with_reducible repeat (first | apply Kd.R_alloc | apply Kd.R_drewN | apply Kd.R_drew)); exact HO_257001.out) gb262 (Nat.le_of_eq hg.symm)) hb)
                have n3_ := Aside0.mk (blk_below (g := gb250) (o := .cells #[.bool t245, .slice (some ad259) t246.length co29] 39 (0, 0)) (by (with_reducible repeat (first | refine blk_drewN ?_ _ | refine blk_drew ?_ | refine blk_alloc ?_ _)); exact BK250.out) hb)
                have n4_ := Aside0.mk (blk_below (g := gb256) (o := .cells #[.bool t252, .slice Ao37 t253.length co37] 39 (0, 0)) (by (with_reducible repeat (first | refine blk_drewN ?_ _ | refine blk_drew ?_ | refine blk_alloc ?_ _)); exact BK256.out) hb)
                have n5_ := Aside0.mk (blk_below (g := gb261) (o := .cells #[.int .i64 0, .int .i64 0] 34 (0, 0)) (by (with_reducible repeat (first | refine blk_drewN ?_ _ | refine blk_drew ?_ | refine blk_alloc ?_ _)); exact BK261.out) hb)
                have n6_ := Aside0.mk (below_step (by repeat (first | (with_reducible first | exact HB.out | apply below_alloc | apply pw_below_drewN | apply below_drew1 | refine below_set ?_ GE250.out | refine below_set ?_ GE256.out | refine below_set ?_ GE261.out) | exact HB.out)) hb)
                have n7_ := Aside0.mk (hbox)
                have n8_ := Aside0.mk ((by rw [hg]; exact (below_size (by repeat (first | (with_reducible first | exact HB.out | apply below_alloc | apply pw_below_drewN | apply below_drew1 | refine below_set ?_ GE250.out | refine below_set ?_ GE256.out | refine below_set ?_ GE261.out) | exact HB.out))) : w.heap.size ≤ gb262))
                have n9_ := Aside0.mk ((by rw [hg]; exact (below_size (by repeat (first | (with_reducible first | exact HB.out | apply below_alloc | apply pw_below_drewN | apply below_drew1 | refine below_set ?_ GE250.out | refine below_set ?_ GE256.out | refine below_set ?_ GE261.out) | exact HB.out))) : w.heap.size ≤ gb262))
                have n10_ := Aside0.mk ((by rw [hg]; exact Nat.ne_of_lt (blk_lt (g := gb250) (o := .cells #[.bool t245, .slice (some ad259) t246.length co29] 39 (0, 0)) (by (with_reducible repeat (first | refine blk_drewN ?_ _ | refine blk_drew ?_ | refine blk_alloc ?_ _)); exact BK250.out)) : gb250 ≠ gb262))
                have n11_ := Aside0.mk ((by rw [hg]; exact Nat.ne_of_gt (blk_lt (g := gb250) (o := .cells #[.bool t245, .slice (some ad259) t246.length co29] 39 (0, 0)) (by (with_reducible repeat (first | refine blk_drewN ?_ _ | refine blk_drew ?_ | refine blk_alloc ?_ _)); exact BK250.out)) : gb262 ≠ gb250))
                have n12_ := Aside0.mk ((by rw [hg]; exact Nat.ne_of_lt (blk_lt (g := gb256) (o := .cells #[.bool t252, .slice Ao37 t253.length co37] 39 (0, 0)) (by (with_reducible repeat (first | refine blk_drewN ?_ _ | refine blk_drew ?_ | refine blk_alloc ?_ _)); exact BK256.out)) : gb256 ≠ gb262))
                have n13_ := Aside0.mk ((by rw [hg]; exact Nat.ne_of_gt (blk_lt (g := gb256) (o := .cells #[.bool t252, .slice Ao37 t253.length co37] 39 (0, 0)) (by (with_reducible repeat (first | refine blk_drewN ?_ _ | refine blk_drew ?_ | refine blk_alloc ?_ _)); exact BK256.out)) : gb262 ≠ gb256))
                have n14_ := Aside0.mk ((by rw [hg]; exact Nat.ne_of_lt (blk_lt (g := gb261) (o := .cells #[.int .i64 0, .int .i64 0] 34 (0, 0)) (by (with_reducible repeat (first | refine blk_drewN ?_ _ | refine blk_drew ?_ | refine blk_alloc ?_ _)); exact BK261.out)) : gb261 ≠ gb262))
                have n15_ := Aside0.mk ((by rw [hg]; exact Nat.ne_of_gt (blk_lt (g := gb261) (o := .cells #[.int .i64 0, .int .i64 0] 34 (0, 0)) (by (with_reducible repeat (first | refine blk_drewN ?_ _ | refine blk_drew ?_ | refine blk_alloc ?_ _)); exact BK261.out)) : gb262 ≠ gb261))
                clear HO_6
                clear HO_251001
                clear HO_257001
                clear BK250
                clear BK256
                clear BK261
                clear HB
                have HO_6 := n0_
                have HO_251001 := n1_
                have HO_257001 := n2_
                have BK250 := n3_
                have BK256 := n4_
                have BK261 := n5_
                have HB := n6_
                have BK262 := n7_
                have GW262 := n8_
                have GE262 := n9_
                have NB250_262 := n10_
                have NB262_250 := n11_
                have NB256_262 := n12_
                have NB262_256 := n13_
                have NB261_262 := n14_
                have NB262_261 := n15_
                clear n0_ n1_ n2_ n3_ n4_ n5_ n6_ n7_ n8_ n9_ n10_ n11_ n12_ n13_ n14_ n15_
                clear hb hbox hg
                refine hK.out _ _ ⟨(blk_cell BK250.out 0).trans rfl, (blk_cell BK250.out 1).trans rfl, HS2_, HS3_, HS4_, HS5_⟩ (fun hHeld => ?_)
                clear hK K
                refine norm_ (a' := ?_) ?_ ?_
                rotate_left
                ·show Act.put _ (some 9) _ = _
                 simp only [Act.put, List.setIfInBounds_toArray, List.set_cons_zero, List.set_cons_succ, i64_w, i32_w]
                 rfl
                exact norm_ (by simp only [putAll, Act.put, List.setIfInBounds_toArray, List.set_cons_zero, List.set_cons_succ]) (hCont (gb261, gb262) _ ⟨hHeld, (by (with_reducible repeat (first | apply Kd.R_alloc | apply Kd.R_drewN | apply Kd.R_drew)); exact Kd.R_mono HO_251001.out (fun _ hk => ⟨hk.1.1.2, ⟨hk.1.1.1, ⟨hk.1.2, hk.2⟩⟩⟩)), (by (with_reducible repeat (first | apply Kd.R_alloc | apply Kd.R_drewN | apply Kd.R_drew)); exact Kd.R_mono HO_257001.out (fun _ hk => ⟨hk.1.1.2, ⟨hk.1.1.1, ⟨hk.1.2, hk.2⟩⟩⟩)), (by (with_reducible repeat (first | apply Kd.R_alloc | apply Kd.R_drewN | apply Kd.R_drew)); exact Kd.R_mono HO_6.out (fun _ hk => ⟨hk.1.1.1, ⟨hk.1.1.2, ⟨hk.1.2, hk.2⟩⟩⟩)), (by (with_reducible repeat (first | refine blk_drewN ?_ _ | refine blk_drew ?_ | refine blk_alloc ?_ _)); exact BK250.out), (by (with_reducible repeat (first | refine blk_drewN ?_ _ | refine blk_drew ?_ | refine blk_alloc ?_ _)); exact BK256.out), (by (with_reducible repeat (first | refine blk_drewN ?_ _ | refine blk_drew ?_ | refine blk_alloc ?_ _)); exact BK261.out), (by (with_reducible repeat (first | refine blk_drewN ?_ _ | refine blk_drew ?_ | refine blk_alloc ?_ _)); exact BK262.out), GW261.out, GE261.out, NB250_261.out, NB261_250.out, NB256_261.out, NB261_256.out, NB262_261.out, NB261_262.out, GW262.out, GE262.out, NB250_262.out, NB262_250.out, NB256_262.out, NB262_256.out, (by repeat (first | (with_reducible first | exact HB.out | apply below_alloc | apply pw_below_drewN | apply below_drew1 | refine below_set ?_ GE250.out | refine below_set ?_ GE256.out | refine below_set ?_ GE261.out | refine below_set ?_ GE262.out) | exact HB.out))⟩)
               ·skip
                refine box_step ?hg (N := 9) ?hd (cs := #[.int .i64 0, .int .i64 0]) (t := 34) ?hr ?_; (case hd => rfl); (case hg => rfl); (case hr => first | (go_simp; done) | (go_simp; rfl))
                intro gb262 hg w78 hbox hb
                have HS2_ := (hb.cell (World.block_lt_of_cell? _ _ (hHeld.2.2.1))).trans (hHeld.2.2.1)
                have HS3_ := (hb.cell (World.block_lt_of_cell? _ _ (hHeld.2.2.2.1))).trans (hHeld.2.2.2.1)
                have HS4_ := (hb.cell (World.block_lt_of_cell? _ _ (hHeld.2.2.2.2.1))).trans (hHeld.2.2.2.2.1)
                have HS5_ := (hb.cell (World.block_lt_of_cell? _ _ (hHeld.2.2.2.2.2))).trans (hHeld.2.2.2.2.2)
                have n0_ := Aside0.mk (Kd.R_below (Kd.R_elderB (by (with_reducible repeat (first | apply Kd.R_alloc | apply Kd.R_drewN | apply Kd.R_drew)); exact HO_6.out) gb262 (Nat.le_of_eq hg.symm)) hb)
                have n1_ := Aside0.mk (Kd.R_below (Kd.R_elderB (by (with_reducible repeat (first | apply Kd.R_alloc | apply Kd.R_drewN | apply Kd.R_drew)); exact HO_251001.out) gb262 (Nat.le_of_eq hg.symm)) hb)
                have n2_ := Aside0.mk (Kd.R_below (Kd.R_elderB (by (with_reducible repeat (first | apply Kd.R_alloc | apply Kd.R_drewN | apply Kd.R_drew)); exact HO_257001.out) gb262 (Nat.le_of_eq hg.symm)) hb)
                have n3_ := Aside0.mk (blk_below (g := gb250) (o := .cells #[.bool t245, .slice (some ad259) t246.length co29] 39 (0, 0)) (by (with_reducible repeat (first | refine blk_drewN ?_ _ | refine blk_drew ?_ | refine blk_alloc ?_ _)); exact BK250.out) hb)
                have n4_ := Aside0.mk (blk_below (g := gb256) (o := .cells #[.bool t252, .slice Ao37 t253.length co37] 39 (0, 0)) (by (with_reducible repeat (first | refine blk_drewN ?_ _ | refine blk_drew ?_ | refine blk_alloc ?_ _)); exact BK256.out) hb)
                have n5_ := Aside0.mk (below_step (by repeat (first | (with_reducible first | exact HB.out | apply below_alloc | apply pw_below_drewN | apply below_drew1 | refine below_set ?_ GE250.out | refine below_set ?_ GE256.out) | exact HB.out)) hb)
                have n6_ := Aside0.mk (hbox)
                have n7_ := Aside0.mk ((by rw [hg]; exact (below_size (by repeat (first | (with_reducible first | exact HB.out | apply below_alloc | apply pw_below_drewN | apply below_drew1 | refine below_set ?_ GE250.out | refine below_set ?_ GE256.out) | exact HB.out))) : w.heap.size ≤ gb262))
                have n8_ := Aside0.mk ((by rw [hg]; exact (below_size (by repeat (first | (with_reducible first | exact HB.out | apply below_alloc | apply pw_below_drewN | apply below_drew1 | refine below_set ?_ GE250.out | refine below_set ?_ GE256.out) | exact HB.out))) : w.heap.size ≤ gb262))
                have n9_ := Aside0.mk ((by rw [hg]; exact Nat.ne_of_lt (blk_lt (g := gb250) (o := .cells #[.bool t245, .slice (some ad259) t246.length co29] 39 (0, 0)) (by (with_reducible repeat (first | refine blk_drewN ?_ _ | refine blk_drew ?_ | refine blk_alloc ?_ _)); exact BK250.out)) : gb250 ≠ gb262))
                have n10_ := Aside0.mk ((by rw [hg]; exact Nat.ne_of_gt (blk_lt (g := gb250) (o := .cells #[.bool t245, .slice (some ad259) t246.length co29] 39 (0, 0)) (by (with_reducible repeat (first | refine blk_drewN ?_ _ | refine blk_drew ?_ | refine blk_alloc ?_ _)); exact BK250.out)) : gb262 ≠ gb250))
                have n11_ := Aside0.mk ((by rw [hg]; exact Nat.ne_of_lt (blk_lt (g := gb256) (o := .cells #[.bool t252, .slice Ao37 t253.length co37] 39 (0, 0)) (by (with_reducible repeat (first | refine blk_drewN ?_ _ | refine blk_drew ?_ | refine blk_alloc ?_ _)); exact BK256.out)) : gb256 ≠ gb262))
                have n12_ := Aside0.mk ((by rw [hg]; exact Nat.ne_of_gt (blk_lt (g := gb256) (o := .cells #[.bool t252, .slice Ao37 t253.length co37] 39 (0, 0)) (by (with_reducible repeat (first | refine blk_drewN ?_ _ | refine blk_drew ?_ | refine blk_alloc ?_ _)); exact BK256.out)) : gb262 ≠ gb256))
                clear HO_6
                clear HO_251001
                clear HO_257001
                clear BK250
                clear BK256
                clear HB
                have HO_6 := n0_
                have HO_251001 := n1_
                have HO_257001 := n2_
                have BK250 := n3_
                have BK256 := n4_
                have HB := n5_
                have BK262 := n6_
                have GW262 := n7_
                have GE262 := n8_
                have NB250_262 := n9_
                have NB262_250 := n10_
                have NB256_262 := n11_
                have NB262_256 := n12_
                clear n0_ n1_ n2_ n3_ n4_ n5_ n6_ n7_ n8_ n9_ n10_ n11_ n12_
                clear hb hbox hg
                refine hK.out _ _ ⟨(blk_cell BK250.out 0).trans rfl, (blk_cell BK250.out 1).trans rfl, HS2_, HS3_, HS4_, HS5_⟩ (fun hHeld => ?_)
                clear hK K
                refine norm_ (a' := ?_) ?_ ?_
                rotate_left
                ·show Act.put _ (some 9) _ = _
                 simp only [Act.put, List.setIfInBounds_toArray, List.set_cons_zero, List.set_cons_succ, i64_w, i32_w]
                 rfl
                refine one_ (i := 15) (N := some 8) #[true, true, true, true, true, true, true, true, true, true, true, true, true, true, true, true, true, false, false] rfl rfl (one_of HT_.out (by kernel_rfl)) (by decide) (fun K hK => ?_)
                refine box_step ?hg (N := 8) ?hd (cs := #[.int .i64 0, .int .i64 0]) (t := 34) ?hr ?_; (case hd => rfl); (case hg => rfl); (case hr => first | (go_simp; done) | (go_simp; rfl))
                intro gb261 hg w79 hbox hb
                have HS2_ := (hb.cell (World.block_lt_of_cell? _ _ (hHeld.2.2.1))).trans (hHeld.2.2.1)
                have HS3_ := (hb.cell (World.block_lt_of_cell? _ _ (hHeld.2.2.2.1))).trans (hHeld.2.2.2.1)
                have HS4_ := (hb.cell (World.block_lt_of_cell? _ _ (hHeld.2.2.2.2.1))).trans (hHeld.2.2.2.2.1)
                have HS5_ := (hb.cell (World.block_lt_of_cell? _ _ (hHeld.2.2.2.2.2))).trans (hHeld.2.2.2.2.2)
                have n0_ := Aside0.mk (Kd.R_below (Kd.R_elderB (by (with_reducible repeat (first | apply Kd.R_alloc | apply Kd.R_drewN | apply Kd.R_drew)); exact HO_6.out) gb261 (Nat.le_of_eq hg.symm)) hb)
                have n1_ := Aside0.mk (Kd.R_below (Kd.R_elderB (by (with_reducible repeat (first | apply Kd.R_alloc | apply Kd.R_drewN | apply Kd.R_drew)); exact HO_251001.out) gb261 (Nat.le_of_eq hg.symm)) hb)
                have n2_ := Aside0.mk (Kd.R_below (Kd.R_elderB (by (with_reducible repeat (first | apply Kd.R_alloc | apply Kd.R_drewN | apply Kd.R_drew)); exact HO_257001.out) gb261 (Nat.le_of_eq hg.symm)) hb)
                have n3_ := Aside0.mk (blk_below (g := gb250) (o := .cells #[.bool t245, .slice (some ad259) t246.length co29] 39 (0, 0)) (by (with_reducible repeat (first | refine blk_drewN ?_ _ | refine blk_drew ?_ | refine blk_alloc ?_ _)); exact BK250.out) hb)
                have n4_ := Aside0.mk (blk_below (g := gb256) (o := .cells #[.bool t252, .slice Ao37 t253.length co37] 39 (0, 0)) (by (with_reducible repeat (first | refine blk_drewN ?_ _ | refine blk_drew ?_ | refine blk_alloc ?_ _)); exact BK256.out) hb)
                have n5_ := Aside0.mk (blk_below (g := gb262) (o := .cells #[.int .i64 0, .int .i64 0] 34 (0, 0)) (by (with_reducible repeat (first | refine blk_drewN ?_ _ | refine blk_drew ?_ | refine blk_alloc ?_ _)); exact BK262.out) hb)
                have n6_ := Aside0.mk (below_step (by repeat (first | (with_reducible first | exact HB.out | apply below_alloc | apply pw_below_drewN | apply below_drew1 | refine below_set ?_ GE250.out | refine below_set ?_ GE256.out | refine below_set ?_ GE262.out) | exact HB.out)) hb)
                have n7_ := Aside0.mk (hbox)
                have n8_ := Aside0.mk ((by rw [hg]; exact (below_size (by repeat (first | (with_reducible first | exact HB.out | apply below_alloc | apply pw_below_drewN | apply below_drew1 | refine below_set ?_ GE250.out | refine below_set ?_ GE256.out | refine below_set ?_ GE262.out) | exact HB.out))) : w.heap.size ≤ gb261))
                have n9_ := Aside0.mk ((by rw [hg]; exact (below_size (by repeat (first | (with_reducible first | exact HB.out | apply below_alloc | apply pw_below_drewN | apply below_drew1 | refine below_set ?_ GE250.out | refine below_set ?_ GE256.out | refine below_set ?_ GE262.out) | exact HB.out))) : w.heap.size ≤ gb261))
                have n10_ := Aside0.mk ((by rw [hg]; exact Nat.ne_of_lt (blk_lt (g := gb250) (o := .cells #[.bool t245, .slice (some ad259) t246.length co29] 39 (0, 0)) (by (with_reducible repeat (first | refine blk_drewN ?_ _ | refine blk_drew ?_ | refine blk_alloc ?_ _)); exact BK250.out)) : gb250 ≠ gb261))
                have n11_ := Aside0.mk ((by rw [hg]; exact Nat.ne_of_gt (blk_lt (g := gb250) (o := .cells #[.bool t245, .slice (some ad259) t246.length co29] 39 (0, 0)) (by (with_reducible repeat (first | refine blk_drewN ?_ _ | refine blk_drew ?_ | refine blk_alloc ?_ _)); exact BK250.out)) : gb261 ≠ gb250))
                have n12_ := Aside0.mk ((by rw [hg]; exact Nat.ne_of_lt (blk_lt (g := gb256) (o := .cells #[.bool t252, .slice Ao37 t253.length co37] 39 (0, 0)) (by (with_reducible repeat (first | refine blk_drewN ?_ _ | refine blk_drew ?_ | refine blk_alloc ?_ _)); exact BK256.out)) : gb256 ≠ gb261))
                have n13_ := Aside0.mk ((by rw [hg]; exact Nat.ne_of_gt (blk_lt (g := gb256) (o := .cells #[.bool t252, .slice Ao37 t253.length co37] 39 (0, 0)) (by (with_reducible repeat (first | refine blk_drewN ?_ _ | refine blk_drew ?_ | refine blk_alloc ?_ _)); exact BK256.out)) : gb261 ≠ gb256))
                have n14_ := Aside0.mk ((by rw [hg]; exact Nat.ne_of_lt (blk_lt (g := gb262) (o := .cells #[.int .i64 0, .int .i64 0] 34 (0, 0)) (by (with_reducible repeat (first | refine blk_drewN ?_ _ | refine blk_drew ?_ | refine blk_alloc ?_ _)); exact BK262.out)) : gb262 ≠ gb261))
                have n15_ := Aside0.mk ((by rw [hg]; exact Nat.ne_of_gt (blk_lt (g := gb262) (o := .cells #[.int .i64 0, .int .i64 0] 34 (0, 0)) (by (with_reducible repeat (first | refine blk_drewN ?_ _ | refine blk_drew ?_ | refine blk_alloc ?_ _)); exact BK262.out)) : gb261 ≠ gb262))
                clear HO_6
                clear HO_251001
                clear HO_257001
                clear BK250
                clear BK256
                clear BK262
                clear HB
                have HO_6 := n0_
                have HO_251001 := n1_
                have HO_257001 := n2_
                have BK250 := n3_
                have BK256 := n4_
                have BK262 := n5_
                have HB := n6_
                have BK261 := n7_
                have GW261 := n8_
                have GE261 := n9_
                have NB250_261 := n10_
                have NB261_250 := n11_
                have NB256_261 := n12_
                have NB261_256 := n13_
                have NB262_261 := n14_
                have NB261_262 := n15_
                clear n0_ n1_ n2_ n3_ n4_ n5_ n6_ n7_ n8_ n9_ n10_ n11_ n12_ n13_ n14_ n15_
                clear hb hbox hg
                refine hK.out _ _ ⟨(blk_cell BK250.out 0).trans rfl, (blk_cell BK250.out 1).trans rfl, HS2_, HS3_, HS4_, HS5_⟩ (fun hHeld => ?_)
                clear hK K
                refine norm_ (a' := ?_) ?_ ?_
                rotate_left
                ·show Act.put _ (some 8) _ = _
                 simp only [Act.put, List.setIfInBounds_toArray, List.set_cons_zero, List.set_cons_succ, i64_w, i32_w]
                 rfl
                exact norm_ (by simp only [putAll, Act.put, List.setIfInBounds_toArray, List.set_cons_zero, List.set_cons_succ]) (hCont (gb261, gb262) _ ⟨hHeld, (by (with_reducible repeat (first | apply Kd.R_alloc | apply Kd.R_drewN | apply Kd.R_drew)); exact Kd.R_mono HO_251001.out (fun _ hk => ⟨hk.1.1.2, ⟨hk.1.1.1, ⟨hk.2, hk.1.2⟩⟩⟩)), (by (with_reducible repeat (first | apply Kd.R_alloc | apply Kd.R_drewN | apply Kd.R_drew)); exact Kd.R_mono HO_257001.out (fun _ hk => ⟨hk.1.1.2, ⟨hk.1.1.1, ⟨hk.2, hk.1.2⟩⟩⟩)), (by (with_reducible repeat (first | apply Kd.R_alloc | apply Kd.R_drewN | apply Kd.R_drew)); exact Kd.R_mono HO_6.out (fun _ hk => ⟨hk.1.1.1, ⟨hk.1.1.2, ⟨hk.2, hk.1.2⟩⟩⟩)), (by (with_reducible repeat (first | refine blk_drewN ?_ _ | refine blk_drew ?_ | refine blk_alloc ?_ _)); exact BK250.out), (by (with_reducible repeat (first | refine blk_drewN ?_ _ | refine blk_drew ?_ | refine blk_alloc ?_ _)); exact BK256.out), (by (with_reducible repeat (first | refine blk_drewN ?_ _ | refine blk_drew ?_ | refine blk_alloc ?_ _)); exact BK261.out), (by (with_reducible repeat (first | refine blk_drewN ?_ _ | refine blk_drew ?_ | refine blk_alloc ?_ _)); exact BK262.out), GW261.out, GE261.out, NB250_261.out, NB261_250.out, NB256_261.out, NB261_256.out, NB262_261.out, NB261_262.out, GW262.out, GE262.out, NB250_262.out, NB262_250.out, NB256_262.out, NB262_256.out, (by repeat (first | (with_reducible first | exact HB.out | apply below_alloc | apply pw_below_drewN | apply below_drew1 | refine below_set ?_ GE250.out | refine below_set ?_ GE256.out | refine below_set ?_ GE262.out | refine below_set ?_ GE261.out) | exact HB.out))⟩)
              rintro ⟨gb261, gb262⟩ w80 ⟨hS_, h0_, h1_, h2_, h3_, h4_, h5_, h6_, h7_, h8_, h9_, h10_, h11_, h12_, h13_, h14_, h15_, h16_, h17_, h18_, h19_, h20_, h21_⟩
              have n0_ : Aside0 (Kd.R k34 34 w80 w.heap.size (fun k_ => some k_ ≠ (.slice Ao37 t253.length co37 : Value).ownBlock ∧ some k_ ≠ (u6 : Value).ownBlock ∧ k_ ≠ gb261 ∧ k_ ≠ gb262) (.slice (some ad259) t246.length co29) t246) := ⟨h0_⟩
              have n1_ : Aside0 (Kd.R k34 34 w80 w.heap.size (fun k_ => some k_ ≠ (.slice (some ad259) t246.length co29 : Value).ownBlock ∧ some k_ ≠ (u6 : Value).ownBlock ∧ k_ ≠ gb261 ∧ k_ ≠ gb262) (.slice Ao37 t253.length co37) t253) := ⟨h1_⟩
              have n2_ : Aside0 (Kd.R k34 34 w80 w.heap.size (fun k_ => some k_ ≠ (.slice (some ad259) t246.length co29 : Value).ownBlock ∧ some k_ ≠ (.slice Ao37 t253.length co37 : Value).ownBlock ∧ k_ ≠ gb261 ∧ k_ ≠ gb262) u6 x6_2) := ⟨h2_⟩
              have n3_ : Aside0 (w80.heap[gb250]? = some (.cells #[.bool t245, .slice (some ad259) t246.length co29] 39 (0, 0))) := ⟨h3_⟩
              have n4_ : Aside0 (w80.heap[gb256]? = some (.cells #[.bool t252, .slice Ao37 t253.length co37] 39 (0, 0))) := ⟨h4_⟩
              have n5_ : Aside0 (w80.heap[gb261]? = some (.cells #[.int .i64 0, .int .i64 0] 34 (0, 0))) := ⟨h5_⟩
              have n6_ : Aside0 (w80.heap[gb262]? = some (.cells #[.int .i64 0, .int .i64 0] 34 (0, 0))) := ⟨h6_⟩
              have n7_ : Aside0 (w.heap.size ≤ gb261) := ⟨h7_⟩
              have n8_ : Aside0 (w.heap.size ≤ gb261) := ⟨h8_⟩
              have n9_ : Aside0 (gb250 ≠ gb261) := ⟨h9_⟩
              have n10_ : Aside0 (gb261 ≠ gb250) := ⟨h10_⟩
              have n11_ : Aside0 (gb256 ≠ gb261) := ⟨h11_⟩
              have n12_ : Aside0 (gb261 ≠ gb256) := ⟨h12_⟩
              have n13_ : Aside0 (gb262 ≠ gb261) := ⟨h13_⟩
              have n14_ : Aside0 (gb261 ≠ gb262) := ⟨h14_⟩
              have n15_ : Aside0 (w.heap.size ≤ gb262) := ⟨h15_⟩
              have n16_ : Aside0 (w.heap.size ≤ gb262) := ⟨h16_⟩
              have n17_ : Aside0 (gb250 ≠ gb262) := ⟨h17_⟩
              have n18_ : Aside0 (gb262 ≠ gb250) := ⟨h18_⟩
              have n19_ : Aside0 (gb256 ≠ gb262) := ⟨h19_⟩
              have n20_ : Aside0 (gb262 ≠ gb256) := ⟨h20_⟩
              have n21_ : Aside0 (Below w.heap.size w w80) := ⟨h21_⟩
              clear HO_6
              clear HO_251001
              clear HO_257001
              clear BK250
              clear BK256
              clear HB
              clear h0_ h1_ h2_ h3_ h4_ h5_ h6_ h7_ h8_ h9_ h10_ h11_ h12_ h13_ h14_ h15_ h16_ h17_ h18_ h19_ h20_ h21_
              have HO_251001 := n0_
              have HO_257001 := n1_
              have HO_6 := n2_
              have BK250 := n3_
              have BK256 := n4_
              have BK261 := n5_
              have BK262 := n6_
              have GW261 := n7_
              have GE261 := n8_
              have NB250_261 := n9_
              have NB261_250 := n10_
              have NB256_261 := n11_
              have NB261_256 := n12_
              have NB262_261 := n13_
              have NB261_262 := n14_
              have GW262 := n15_
              have GE262 := n16_
              have NB250_262 := n17_
              have NB262_250 := n18_
              have NB256_262 := n19_
              have NB262_256 := n20_
              have HB := n21_
              clear n0_ n1_ n2_ n3_ n4_ n5_ n6_ n7_ n8_ n9_ n10_ n11_ n12_ n13_ n14_ n15_ n16_ n17_ n18_ n19_ n20_ n21_
              have hHeld : w80.cell? ⟨gb250, 0, none⟩ = some (.bool t245) ∧ w80.cell? ⟨gb250, 1, none⟩ = some (.slice (some ad259) t246.length co29) ∧ w80.cell? (ad259.add ((x7_2).toNat * 2)) = some (.int .i64 ((rd_T34 t246 x7_2).f0)) ∧ w80.cell? ⟨(ad259.add ((x7_2).toNat * 2)).block, (ad259.add ((x7_2).toNat * 2)).off + 1, none⟩ = some (.int .i64 ((rd_T34 t246 x7_2).f1)) ∧ w80.cell? (ad259.add (((ji51)).toNat * 2)) = some (.int .i64 ((rd_T34 t246 (ji51)).f0)) ∧ w80.cell? ⟨(ad259.add (((ji51)).toNat * 2)).block, (ad259.add (((ji51)).toNat * 2)).off + 1, none⟩ = some (.int .i64 ((rd_T34 t246 (ji51)).f1)) := hS_
              refine norm_ (a' := ?_) ?_ ?_
              rotate_left
              ·simp only [putAll, Act.put, List.setIfInBounds_toArray, List.set_cons_zero, List.set_cons_succ]
               rfl
              refine one_ (i := 17) (N := none) #[true, true, true, true, true, true, true, true, true, true, true, true, true, true, true, true, true, true, false] rfl rfl (one_of HT_.out (by kernel_rfl)) (by decide) (fun K hK => ?_)
              have hs81 : w80.cell? ⟨gb261, 0, none⟩ = some (.int .i64 0) := (blk_cell BK261.out 0).trans rfl
              have hfs81 := blk_frozen BK261.out 0
              have hns81_0 := NB250_261.out
              have hns81_1 := NB256_261.out
              have hns81_3 := NB262_261.out
              have hms81_0 := NB261_250.out
              have hms81_1 := NB261_256.out
              have hms81_3 := NB261_262.out
              have hs82 : w80.cell? ⟨gb261, 1, none⟩ = some (.int .i64 0) := (blk_cell BK261.out 1).trans rfl
              have hfs82 := blk_frozen BK261.out 1
              have hns82_0 := NB250_261.out
              have hns82_1 := NB256_261.out
              have hns82_3 := NB262_261.out
              have hms82_0 := NB261_250.out
              have hms82_1 := NB261_256.out
              have hms82_3 := NB261_262.out
              refine skip_ (w1 := ?_) (by rfl) rfl ?_ ?_
              rotate_left
              ·go_simp
               rfl
              refine hK.out _ _ ⟨((cell_far (p := ⟨gb261, _, none⟩) NB250_261.out _).trans (((cell_far (p := ⟨gb261, _, none⟩) NB250_261.out _).trans (hHeld.1)))), ((cell_far (p := ⟨gb261, _, none⟩) NB250_261.out _).trans (((cell_far (p := ⟨gb261, _, none⟩) NB250_261.out _).trans (hHeld.2.1)))), ((cell_far (p := ⟨gb261, _, none⟩) (by first | exact Kd.own_blk (Kd.R_away HO_251001.out (fun _ hk => hk.2.2.1)) | (rw [add_block]; exact Kd.own_blk (Kd.R_away HO_251001.out (fun _ hk => hk.2.2.1))) | (show (Addr.add _ _).block ≠ _; rw [add_block]; exact Kd.own_blk (Kd.R_away HO_251001.out (fun _ hk => hk.2.2.1))) | (dsimp only; exact Kd.own_blk (Kd.R_away HO_251001.out (fun _ hk => hk.2.2.1)))) _).trans (((cell_far (p := ⟨gb261, _, none⟩) (by first | exact Kd.own_blk (Kd.R_away HO_251001.out (fun _ hk => hk.2.2.1)) | (rw [add_block]; exact Kd.own_blk (Kd.R_away HO_251001.out (fun _ hk => hk.2.2.1))) | (show (Addr.add _ _).block ≠ _; rw [add_block]; exact Kd.own_blk (Kd.R_away HO_251001.out (fun _ hk => hk.2.2.1))) | (dsimp only; exact Kd.own_blk (Kd.R_away HO_251001.out (fun _ hk => hk.2.2.1)))) _).trans (hHeld.2.2.1)))), ((cell_far (p := ⟨gb261, _, none⟩) (by first | exact Kd.own_blk (Kd.R_away HO_251001.out (fun _ hk => hk.2.2.1)) | (rw [add_block]; exact Kd.own_blk (Kd.R_away HO_251001.out (fun _ hk => hk.2.2.1))) | (show (Addr.add _ _).block ≠ _; rw [add_block]; exact Kd.own_blk (Kd.R_away HO_251001.out (fun _ hk => hk.2.2.1))) | (dsimp only; exact Kd.own_blk (Kd.R_away HO_251001.out (fun _ hk => hk.2.2.1)))) _).trans (((cell_far (p := ⟨gb261, _, none⟩) (by first | exact Kd.own_blk (Kd.R_away HO_251001.out (fun _ hk => hk.2.2.1)) | (rw [add_block]; exact Kd.own_blk (Kd.R_away HO_251001.out (fun _ hk => hk.2.2.1))) | (show (Addr.add _ _).block ≠ _; rw [add_block]; exact Kd.own_blk (Kd.R_away HO_251001.out (fun _ hk => hk.2.2.1))) | (dsimp only; exact Kd.own_blk (Kd.R_away HO_251001.out (fun _ hk => hk.2.2.1)))) _).trans (hHeld.2.2.2.1)))), ((cell_far (p := ⟨gb261, _, none⟩) (by first | exact Kd.own_blk (Kd.R_away HO_251001.out (fun _ hk => hk.2.2.1)) | (rw [add_block]; exact Kd.own_blk (Kd.R_away HO_251001.out (fun _ hk => hk.2.2.1))) | (show (Addr.add _ _).block ≠ _; rw [add_block]; exact Kd.own_blk (Kd.R_away HO_251001.out (fun _ hk => hk.2.2.1))) | (dsimp only; exact Kd.own_blk (Kd.R_away HO_251001.out (fun _ hk => hk.2.2.1)))) _).trans (((cell_far (p := ⟨gb261, _, none⟩) (by first | exact Kd.own_blk (Kd.R_away HO_251001.out (fun _ hk => hk.2.2.1)) | (rw [add_block]; exact Kd.own_blk (Kd.R_away HO_251001.out (fun _ hk => hk.2.2.1))) | (show (Addr.add _ _).block ≠ _; rw [add_block]; exact Kd.own_blk (Kd.R_away HO_251001.out (fun _ hk => hk.2.2.1))) | (dsimp only; exact Kd.own_blk (Kd.R_away HO_251001.out (fun _ hk => hk.2.2.1)))) _).trans (hHeld.2.2.2.2.1)))), ((cell_far (p := ⟨gb261, _, none⟩) (by first | exact Kd.own_blk (Kd.R_away HO_251001.out (fun _ hk => hk.2.2.1)) | (rw [add_block]; exact Kd.own_blk (Kd.R_away HO_251001.out (fun _ hk => hk.2.2.1))) | (show (Addr.add _ _).block ≠ _; rw [add_block]; exact Kd.own_blk (Kd.R_away HO_251001.out (fun _ hk => hk.2.2.1))) | (dsimp only; exact Kd.own_blk (Kd.R_away HO_251001.out (fun _ hk => hk.2.2.1)))) _).trans (((cell_far (p := ⟨gb261, _, none⟩) (by first | exact Kd.own_blk (Kd.R_away HO_251001.out (fun _ hk => hk.2.2.1)) | (rw [add_block]; exact Kd.own_blk (Kd.R_away HO_251001.out (fun _ hk => hk.2.2.1))) | (show (Addr.add _ _).block ≠ _; rw [add_block]; exact Kd.own_blk (Kd.R_away HO_251001.out (fun _ hk => hk.2.2.1))) | (dsimp only; exact Kd.own_blk (Kd.R_away HO_251001.out (fun _ hk => hk.2.2.1)))) _).trans (hHeld.2.2.2.2.2))))⟩ (fun hHeld => ?_)
              clear hK K
              refine one_ (i := 18) (N := none) #[true, true, true, true, true, true, true, true, true, true, true, true, true, true, true, true, true, true, true] rfl rfl (one_of HT_.out (by kernel_rfl)) (by decide) (fun K hK => ?_)
              have hs83 : w80.cell? ⟨gb262, 0, none⟩ = some (.int .i64 0) := (blk_cell BK262.out 0).trans rfl
              have hfs83 := blk_frozen BK262.out 0
              have hns83_0 := NB250_262.out
              have hns83_1 := NB256_262.out
              have hns83_2 := NB261_262.out
              have hms83_0 := NB262_250.out
              have hms83_1 := NB262_256.out
              have hms83_2 := NB262_261.out
              have hs84 : w80.cell? ⟨gb262, 1, none⟩ = some (.int .i64 0) := (blk_cell BK262.out 1).trans rfl
              have hfs84 := blk_frozen BK262.out 1
              have hns84_0 := NB250_262.out
              have hns84_1 := NB256_262.out
              have hns84_2 := NB261_262.out
              have hms84_0 := NB262_250.out
              have hms84_1 := NB262_256.out
              have hms84_2 := NB262_261.out
              refine skip_ (w1 := ?_) (by rfl) rfl ?_ ?_
              rotate_left
              ·go_simp
               rfl
              refine hK.out _ _ ⟨((cell_far (p := ⟨gb262, _, none⟩) NB250_262.out _).trans (((cell_far (p := ⟨gb262, _, none⟩) NB250_262.out _).trans (hHeld.1)))), ((cell_far (p := ⟨gb262, _, none⟩) NB250_262.out _).trans (((cell_far (p := ⟨gb262, _, none⟩) NB250_262.out _).trans (hHeld.2.1)))), ((cell_far (p := ⟨gb262, _, none⟩) (by first | exact Kd.own_blk (Kd.R_away HO_251001.out (fun _ hk => hk.2.2.2)) | (rw [add_block]; exact Kd.own_blk (Kd.R_away HO_251001.out (fun _ hk => hk.2.2.2))) | (show (Addr.add _ _).block ≠ _; rw [add_block]; exact Kd.own_blk (Kd.R_away HO_251001.out (fun _ hk => hk.2.2.2))) | (dsimp only; exact Kd.own_blk (Kd.R_away HO_251001.out (fun _ hk => hk.2.2.2)))) _).trans (((cell_far (p := ⟨gb262, _, none⟩) (by first | exact Kd.own_blk (Kd.R_away HO_251001.out (fun _ hk => hk.2.2.2)) | (rw [add_block]; exact Kd.own_blk (Kd.R_away HO_251001.out (fun _ hk => hk.2.2.2))) | (show (Addr.add _ _).block ≠ _; rw [add_block]; exact Kd.own_blk (Kd.R_away HO_251001.out (fun _ hk => hk.2.2.2))) | (dsimp only; exact Kd.own_blk (Kd.R_away HO_251001.out (fun _ hk => hk.2.2.2)))) _).trans (hHeld.2.2.1)))), ((cell_far (p := ⟨gb262, _, none⟩) (by first | exact Kd.own_blk (Kd.R_away HO_251001.out (fun _ hk => hk.2.2.2)) | (rw [add_block]; exact Kd.own_blk (Kd.R_away HO_251001.out (fun _ hk => hk.2.2.2))) | (show (Addr.add _ _).block ≠ _; rw [add_block]; exact Kd.own_blk (Kd.R_away HO_251001.out (fun _ hk => hk.2.2.2))) | (dsimp only; exact Kd.own_blk (Kd.R_away HO_251001.out (fun _ hk => hk.2.2.2)))) _).trans (((cell_far (p := ⟨gb262, _, none⟩) (by first | exact Kd.own_blk (Kd.R_away HO_251001.out (fun _ hk => hk.2.2.2)) | (rw [add_block]; exact Kd.own_blk (Kd.R_away HO_251001.out (fun _ hk => hk.2.2.2))) | (show (Addr.add _ _).block ≠ _; rw [add_block]; exact Kd.own_blk (Kd.R_away HO_251001.out (fun _ hk => hk.2.2.2))) | (dsimp only; exact Kd.own_blk (Kd.R_away HO_251001.out (fun _ hk => hk.2.2.2)))) _).trans (hHeld.2.2.2.1)))), ((cell_far (p := ⟨gb262, _, none⟩) (by first | exact Kd.own_blk (Kd.R_away HO_251001.out (fun _ hk => hk.2.2.2)) | (rw [add_block]; exact Kd.own_blk (Kd.R_away HO_251001.out (fun _ hk => hk.2.2.2))) | (show (Addr.add _ _).block ≠ _; rw [add_block]; exact Kd.own_blk (Kd.R_away HO_251001.out (fun _ hk => hk.2.2.2))) | (dsimp only; exact Kd.own_blk (Kd.R_away HO_251001.out (fun _ hk => hk.2.2.2)))) _).trans (((cell_far (p := ⟨gb262, _, none⟩) (by first | exact Kd.own_blk (Kd.R_away HO_251001.out (fun _ hk => hk.2.2.2)) | (rw [add_block]; exact Kd.own_blk (Kd.R_away HO_251001.out (fun _ hk => hk.2.2.2))) | (show (Addr.add _ _).block ≠ _; rw [add_block]; exact Kd.own_blk (Kd.R_away HO_251001.out (fun _ hk => hk.2.2.2))) | (dsimp only; exact Kd.own_blk (Kd.R_away HO_251001.out (fun _ hk => hk.2.2.2)))) _).trans (hHeld.2.2.2.2.1)))), ((cell_far (p := ⟨gb262, _, none⟩) (by first | exact Kd.own_blk (Kd.R_away HO_251001.out (fun _ hk => hk.2.2.2)) | (rw [add_block]; exact Kd.own_blk (Kd.R_away HO_251001.out (fun _ hk => hk.2.2.2))) | (show (Addr.add _ _).block ≠ _; rw [add_block]; exact Kd.own_blk (Kd.R_away HO_251001.out (fun _ hk => hk.2.2.2))) | (dsimp only; exact Kd.own_blk (Kd.R_away HO_251001.out (fun _ hk => hk.2.2.2)))) _).trans (((cell_far (p := ⟨gb262, _, none⟩) (by first | exact Kd.own_blk (Kd.R_away HO_251001.out (fun _ hk => hk.2.2.2)) | (rw [add_block]; exact Kd.own_blk (Kd.R_away HO_251001.out (fun _ hk => hk.2.2.2))) | (show (Addr.add _ _).block ≠ _; rw [add_block]; exact Kd.own_blk (Kd.R_away HO_251001.out (fun _ hk => hk.2.2.2))) | (dsimp only; exact Kd.own_blk (Kd.R_away HO_251001.out (fun _ hk => hk.2.2.2)))) _).trans (hHeld.2.2.2.2.2))))⟩ (fun hHeld => ?_)
              clear hK K
              refine done_ (done_of HT_.out (by kernel_rfl)) ?_
              have hnb85 := NB261_250.out
              have hnc85 := NB250_261.out
              have hnb86 := NB261_256.out
              have hnc86 := NB256_261.out
              have hnb87 := NB261_262.out
              have hnc87 := NB262_261.out
              have hcz88_0 : w80.cell? ⟨gb261, 0, none⟩ = some (.int .i64 0) := (blk_cell BK261.out 0).trans rfl
              have hcz88_1 : w80.cell? ⟨gb261, 1, none⟩ = some (.int .i64 0) := (blk_cell BK261.out 1).trans rfl
              have hfz88_0 := blk_frozen BK261.out 0
              have hfz88_1 := blk_frozen BK261.out 1
              have hnb89 := NB262_250.out
              have hnc89 := NB250_262.out
              have hnb90 := NB262_256.out
              have hnc90 := NB256_262.out
              have hcz91_0 : w80.cell? ⟨gb262, 0, none⟩ = some (.int .i64 0) := (blk_cell BK262.out 0).trans rfl
              have hcz91_1 : w80.cell? ⟨gb262, 1, none⟩ = some (.int .i64 0) := (blk_cell BK262.out 1).trans rfl
              have hfz91_0 := blk_frozen BK262.out 0
              have hfz91_1 := blk_frozen BK262.out 1
              obtain ⟨Ao92, co92, eo92⟩ := Kd.R_slice HO_6.out
              subst eo92
              go_upto_if 62 with (fail)
              go_cut [6] (fun v6 wc => ∃ (kq : Nat) (x6_72 : List (S34)), Aside0 (mutoscopelaw9_ArcWhole.j2 kq t251 x6_72 x7_2 t245 t246 t252 t253 ((rd_T34 t246 (ji51)).f0) ((rd_T34 t246 (ji51)).f1) = some r) ∧ Aside0 (kq ≤ k2) ∧ Aside0 (Kd.R k34 34 wc w.heap.size (fun k_ => some k_ ≠ ((.slice (some ad259) t246.length co29) : Value).ownBlock ∧ some k_ ≠ ((.slice Ao37 t253.length co37) : Value).ownBlock ∧ k_ ≠ gb261 ∧ k_ ≠ gb262) v6 x6_72) ∧ Aside0 (Kd.R k34 34 wc w.heap.size (fun k_ => some k_ ≠ (v6 : Value).ownBlock ∧ some k_ ≠ ((.slice Ao37 t253.length co37) : Value).ownBlock ∧ k_ ≠ gb261 ∧ k_ ≠ gb262) (.slice (some ad259) t246.length co29) t246) ∧ Aside0 (Kd.R k34 34 wc w.heap.size (fun k_ => some k_ ≠ (v6 : Value).ownBlock ∧ some k_ ≠ ((.slice (some ad259) t246.length co29) : Value).ownBlock ∧ k_ ≠ gb261 ∧ k_ ≠ gb262) (.slice Ao37 t253.length co37) t253) ∧ Aside0 (wc.heap[gb250]? = some (.cells #[.bool t245, (.slice (some ad259) t246.length co29)] 39 (0, 0))) ∧ Aside0 (wc.heap[gb256]? = some (.cells #[.bool t252, (.slice Ao37 t253.length co37)] 39 (0, 0))) ∧ Aside0 (wc.heap[gb261]? = some (.cells #[.int .i64 ((rd_T34 t246 x7_2).f0), .int .i64 ((rd_T34 t246 x7_2).f1)] 34 (0, 0))) ∧ Aside0 (wc.heap[gb262]? = some (.cells #[.int .i64 ((rd_T34 t246 (ji51)).f0), .int .i64 ((rd_T34 t246 (ji51)).f1)] 34 (0, 0))) ∧ Aside0 (Below w.heap.size w wc))
              case first =>
               have H := HC73.out
               clear HC73
               by_cases c93 : (x6_2.length : Int) = 0
               ·rw [if_pos c93] at H
                have c93b0 : ((x6_2.length : Int) == 0) = true := beq_iff_eq.mpr c93
                have c93b1 : ((x6_2.length : Int) != 0) = false := bne_eq_false_iff_eq.mpr c93
                clear c93
                (first | rw [c93b0] | (simp only [i64_w, i32_w]; rw [c93b0]) | skip)
                by_cases c94 : x6_2.length < 8796093022208
                ·rw [if_pos c94] at H
                 have LMc94 := Aside0.mk c94
                 clear c94
                 obtain ⟨y263, hy263⟩ : ∃ y_ : List (S34), y_ = (x6_2 ++ [(⟨(rd_T34 t246 x7_2).f0, (rd_T34 t246 x7_2).f1⟩ : S34)]) := ⟨_, rfl⟩
                 replace H : (mutoscopelaw9_ArcWhole.j2 k2 t251 y263 x7_2 t245 t246 t252 t253 ((rd_T34 t246 (ji51)).f0) ((rd_T34 t246 (ji51)).f1)) = some r := by first | (rw [hy263]; with_reducible exact H) | (have H2_ := (Option.bind_some _ _).symm.trans H; rw [hy263]; with_reducible exact H2_) | (have H2_ := (Option.bind_some _ _).symm.trans H; with_reducible exact H2_) | with_reducible exact H | (rw [hy263]; exact H) | exact H
                 have Ny263 := Aside0.mk hy263
                 clear hy263
                 have H' := Aside0.mk H
                 clear H
                 have hnb95 := NB261_250.out
                 have hnc95 := NB250_261.out
                 have hnb96 := NB261_256.out
                 have hnc96 := NB256_261.out
                 have hnb97 := NB261_262.out
                 have hnc97 := NB262_261.out
                 have hcz98_0 : w80.cell? ⟨gb261, 0, none⟩ = some (.int .i64 0) := (blk_cell BK261.out 0).trans rfl
                 have hcz98_1 : w80.cell? ⟨gb261, 1, none⟩ = some (.int .i64 0) := (blk_cell BK261.out 1).trans rfl
                 have hfz98_0 := blk_frozen BK261.out 0
                 have hfz98_1 := blk_frozen BK261.out 1
                 go_wp2_with (first | ((with_reducible refine gate_builtin (b := .append) (xs := #[.tmp 63, .tmp 65]) rfl ?_); (try (refine gate_guard (by rfl) ?_; dsimp only)); at_builtin; refine Kd.R_append k34 (w0 := w) w.heap.size rfl (.tmp 63) (.tmp 65) 27 34 (.agg #[(.int .i64 0), (.int .i64 0)]) 16 rfl Try.underlying27 info34 rfl (by decide) (by omega) (.slice Ao92 x6_2.length co92) x6_2 (⟨(rd_T34 t246 x7_2).f0, (rd_T34 t246 x7_2).f1⟩ : S34) [.int .i64 ((rd_T34 t246 x7_2).f0), .int .i64 ((rd_T34 t246 x7_2).f1)] (fun k_ => some k_ ≠ (.slice (some ad259) t246.length co29 : Value).ownBlock ∧ some k_ ≠ (.slice Ao37 t253.length co37 : Value).ownBlock ∧ k_ ≠ gb261 ∧ k_ ≠ gb262) (fun _ => False) rfl (by first | (go_simp; done) | (go_simp; rfl)) ?aP (fun _ hk => hk.elim) ?aF ?aO ?aB ?aS ?aL ?_; (case aP => exact k34_mkM _ _ _ (⟨(rd_T34 t246 x7_2).f0, (rd_T34 t246 x7_2).f1⟩ : S34)); (case aB => exact (by repeat (first | (with_reducible first | exact HB.out | apply below_alloc | apply pw_below_drewN | apply below_drew1 | refine below_set ?_ GE250.out | refine below_set ?_ GE256.out | refine below_set ?_ GE261.out | refine below_set ?_ GE262.out) | exact HB.out))); (case aF => exact (fun k_ hk => ⟨Kd.fresh' (Kd.R_lt (by (with_reducible repeat (first | apply Kd.R_alloc | apply Kd.R_drewN | apply Kd.R_drew)); exact (Kd.R_mono (Kd.R_mono (Kd.R_far (p := ⟨gb262, 1, none⟩) (Kd.R_far (p := ⟨gb262, 0, none⟩) (Kd.R_far (p := ⟨gb261, 1, none⟩) (Kd.R_far (p := ⟨gb261, 0, none⟩) (Kd.R_mono (Kd.R_mono HO_251001.out (fun k_ hk => (⟨hk, hk.2.2.1⟩ : _ ∧ k_ ≠ gb261))) (fun k_ hk => (⟨hk, hk.1.2.2.2⟩ : _ ∧ k_ ≠ gb262))) (fun _ hk => hk.1.2) (.int .i64 ((rd_T34 t246 x7_2).f0))) (fun _ hk => hk.1.2) (.int .i64 ((rd_T34 t246 x7_2).f1))) (fun _ hk => hk.2) (.int .i64 ((rd_T34 t246 (ji51)).f0))) (fun _ hk => hk.2) (.int .i64 ((rd_T34 t246 (ji51)).f1))) (fun _ h_ => h_.1)) (fun _ h_ => h_.1)))) k_ hk, Kd.fresh' (Kd.R_lt (by (with_reducible repeat (first | apply Kd.R_alloc | apply Kd.R_drewN | apply Kd.R_drew)); exact (Kd.R_mono (Kd.R_mono (Kd.R_far (p := ⟨gb262, 1, none⟩) (Kd.R_far (p := ⟨gb262, 0, none⟩) (Kd.R_far (p := ⟨gb261, 1, none⟩) (Kd.R_far (p := ⟨gb261, 0, none⟩) (Kd.R_mono (Kd.R_mono HO_257001.out (fun k_ hk => (⟨hk, hk.2.2.1⟩ : _ ∧ k_ ≠ gb261))) (fun k_ hk => (⟨hk, hk.1.2.2.2⟩ : _ ∧ k_ ≠ gb262))) (fun _ hk => hk.1.2) (.int .i64 ((rd_T34 t246 x7_2).f0))) (fun _ hk => hk.1.2) (.int .i64 ((rd_T34 t246 x7_2).f1))) (fun _ hk => hk.2) (.int .i64 ((rd_T34 t246 (ji51)).f0))) (fun _ hk => hk.2) (.int .i64 ((rd_T34 t246 (ji51)).f1))) (fun _ h_ => h_.1)) (fun _ h_ => h_.1)))) k_ hk, Kd.freshB (g := gb261) (o := .cells #[.int .i64 ((rd_T34 t246 x7_2).f0), .int .i64 ((rd_T34 t246 x7_2).f1)] 34 (0, 0)) (by (with_reducible repeat (first | refine blk_drewN ?_ _ | refine blk_drew ?_ | refine blk_alloc ?_ _)); refine blk_far ?_ NB261_262.out _; (with_reducible repeat (first | refine blk_drewN ?_ _ | refine blk_drew ?_ | refine blk_alloc ?_ _)); refine blk_far ?_ NB261_262.out _; (with_reducible repeat (first | refine blk_drewN ?_ _ | refine blk_drew ?_ | refine blk_alloc ?_ _)); refine blk_put (cs := #[.int .i64 ((rd_T34 t246 x7_2).f0), .int .i64 0]) ?_ 1 _ rfl; (with_reducible repeat (first | refine blk_drewN ?_ _ | refine blk_drew ?_ | refine blk_alloc ?_ _)); refine blk_put (cs := #[.int .i64 0, .int .i64 0]) ?_ 0 _ rfl; (with_reducible repeat (first | refine blk_drewN ?_ _ | refine blk_drew ?_ | refine blk_alloc ?_ _)); exact BK261.out) k_ hk, Kd.freshB (g := gb262) (o := .cells #[.int .i64 ((rd_T34 t246 (ji51)).f0), .int .i64 ((rd_T34 t246 (ji51)).f1)] 34 (0, 0)) (by (with_reducible repeat (first | refine blk_drewN ?_ _ | refine blk_drew ?_ | refine blk_alloc ?_ _)); refine blk_put (cs := #[.int .i64 ((rd_T34 t246 (ji51)).f0), .int .i64 0]) ?_ 1 _ rfl; (with_reducible repeat (first | refine blk_drewN ?_ _ | refine blk_drew ?_ | refine blk_alloc ?_ _)); refine blk_put (cs := #[.int .i64 0, .int .i64 0]) ?_ 0 _ rfl; (with_reducible repeat (first | refine blk_drewN ?_ _ | refine blk_drew ?_ | refine blk_alloc ?_ _)); refine blk_far ?_ NB262_261.out _; (with_reducible repeat (first | refine blk_drewN ?_ _ | refine blk_drew ?_ | refine blk_alloc ?_ _)); refine blk_far ?_ NB262_261.out _; (with_reducible repeat (first | refine blk_drewN ?_ _ | refine blk_drew ?_ | refine blk_alloc ?_ _)); exact BK262.out) k_ hk⟩)); (case aO => exact (by (with_reducible repeat (first | apply Kd.R_alloc | apply Kd.R_drewN | apply Kd.R_drew)); exact Kd.R_mono (Kd.R_far (p := ⟨gb262, 1, none⟩) (Kd.R_far (p := ⟨gb262, 0, none⟩) (Kd.R_far (p := ⟨gb261, 1, none⟩) (Kd.R_far (p := ⟨gb261, 0, none⟩) (Kd.R_mono (Kd.R_mono HO_6.out (fun k_ hk => (⟨hk, hk.2.2.1⟩ : _ ∧ k_ ≠ gb261))) (fun k_ hk => (⟨hk, hk.1.2.2.2⟩ : _ ∧ k_ ≠ gb262))) (fun _ hk => hk.1.2) (.int .i64 ((rd_T34 t246 x7_2).f0))) (fun _ hk => hk.1.2) (.int .i64 ((rd_T34 t246 x7_2).f1))) (fun _ hk => hk.2) (.int .i64 ((rd_T34 t246 (ji51)).f0))) (fun _ hk => hk.2) (.int .i64 ((rd_T34 t246 (ji51)).f1))) (fun _ hk => ⟨hk.1.1.1, ⟨hk.1.1.2.1, ⟨hk.1.1.2.2.1, hk.1.1.2.2.2⟩⟩⟩))); (case aS => exact (below_size (by repeat (first | (with_reducible first | exact HB.out | apply below_alloc | apply pw_below_drewN | apply below_drew1 | refine below_set ?_ GE250.out | refine below_set ?_ GE256.out | refine below_set ?_ GE261.out | refine below_set ?_ GE262.out) | exact HB.out)))); (case aL => have := LMc94.out; omega); intro v264 w99 ho hb hg hat; rw [← Ny263.out] at ho; have n0_ := Aside0.mk (Kd.R_after (ok := (fun k_ => some k_ ≠ (.slice Ao37 t253.length co37 : Value).ownBlock ∧ k_ ≠ gb261 ∧ k_ ≠ gb262)) (by (with_reducible repeat (first | apply Kd.R_alloc | apply Kd.R_drewN | apply Kd.R_drew)); exact Kd.R_mono (Kd.R_far (p := ⟨gb262, 1, none⟩) (Kd.R_far (p := ⟨gb262, 0, none⟩) (Kd.R_far (p := ⟨gb261, 1, none⟩) (Kd.R_far (p := ⟨gb261, 0, none⟩) (Kd.R_mono (Kd.R_mono HO_251001.out (fun k_ hk => (⟨hk, hk.2.2.1⟩ : _ ∧ k_ ≠ gb261))) (fun k_ hk => (⟨hk, hk.1.2.2.2⟩ : _ ∧ k_ ≠ gb262))) (fun _ hk => hk.1.2) (.int .i64 ((rd_T34 t246 x7_2).f0))) (fun _ hk => hk.1.2) (.int .i64 ((rd_T34 t246 x7_2).f1))) (fun _ hk => hk.2) (.int .i64 ((rd_T34 t246 (ji51)).f0))) (fun _ hk => hk.2) (.int .i64 ((rd_T34 t246 (ji51)).f1))) (fun _ hk => ⟨⟨hk.1.1.1, ⟨hk.1.1.2.2.1, hk.1.1.2.2.2⟩⟩, hk.1.1.2.1⟩)) hg hat); have n1_ := Aside0.mk (Kd.R_after (ok := (fun k_ => some k_ ≠ (.slice (some ad259) t246.length co29 : Value).ownBlock ∧ k_ ≠ gb261 ∧ k_ ≠ gb262)) (by (with_reducible repeat (first | apply Kd.R_alloc | apply Kd.R_drewN | apply Kd.R_drew)); exact Kd.R_mono (Kd.R_far (p := ⟨gb262, 1, none⟩) (Kd.R_far (p := ⟨gb262, 0, none⟩) (Kd.R_far (p := ⟨gb261, 1, none⟩) (Kd.R_far (p := ⟨gb261, 0, none⟩) (Kd.R_mono (Kd.R_mono HO_257001.out (fun k_ hk => (⟨hk, hk.2.2.1⟩ : _ ∧ k_ ≠ gb261))) (fun k_ hk => (⟨hk, hk.1.2.2.2⟩ : _ ∧ k_ ≠ gb262))) (fun _ hk => hk.1.2) (.int .i64 ((rd_T34 t246 x7_2).f0))) (fun _ hk => hk.1.2) (.int .i64 ((rd_T34 t246 x7_2).f1))) (fun _ hk => hk.2) (.int .i64 ((rd_T34 t246 (ji51)).f0))) (fun _ hk => hk.2) (.int .i64 ((rd_T34 t246 (ji51)).f1))) (fun _ hk => ⟨⟨hk.1.1.1, ⟨hk.1.1.2.2.1, hk.1.1.2.2.2⟩⟩, hk.1.1.2.1⟩)) hg hat); have n2_ := Aside0.mk (blk_grown (g := gb250) (o := .cells #[.bool t245, .slice (some ad259) t246.length co29] 39 (0, 0)) (by (with_reducible repeat (first | refine blk_drewN ?_ _ | refine blk_drew ?_ | refine blk_alloc ?_ _)); refine blk_far ?_ NB250_262.out _; (with_reducible repeat (first | refine blk_drewN ?_ _ | refine blk_drew ?_ | refine blk_alloc ?_ _)); refine blk_far ?_ NB250_262.out _; (with_reducible repeat (first | refine blk_drewN ?_ _ | refine blk_drew ?_ | refine blk_alloc ?_ _)); refine blk_far ?_ NB250_261.out _; (with_reducible repeat (first | refine blk_drewN ?_ _ | refine blk_drew ?_ | refine blk_alloc ?_ _)); refine blk_far ?_ NB250_261.out _; (with_reducible repeat (first | refine blk_drewN ?_ _ | refine blk_drew ?_ | refine blk_alloc ?_ _)); exact BK250.out) hg (Kd.R_ne HO_6.out BK250.out (by decide))); have n3_ := Aside0.mk (blk_grown (g := gb256) (o := .cells #[.bool t252, .slice Ao37 t253.length co37] 39 (0, 0)) (by (with_reducible repeat (first | refine blk_drewN ?_ _ | refine blk_drew ?_ | refine blk_alloc ?_ _)); refine blk_far ?_ NB256_262.out _; (with_reducible repeat (first | refine blk_drewN ?_ _ | refine blk_drew ?_ | refine blk_alloc ?_ _)); refine blk_far ?_ NB256_262.out _; (with_reducible repeat (first | refine blk_drewN ?_ _ | refine blk_drew ?_ | refine blk_alloc ?_ _)); refine blk_far ?_ NB256_261.out _; (with_reducible repeat (first | refine blk_drewN ?_ _ | refine blk_drew ?_ | refine blk_alloc ?_ _)); refine blk_far ?_ NB256_261.out _; (with_reducible repeat (first | refine blk_drewN ?_ _ | refine blk_drew ?_ | refine blk_alloc ?_ _)); exact BK256.out) hg (Kd.R_ne HO_6.out BK256.out (by decide))); have n4_ := Aside0.mk (blk_grown (g := gb261) (o := .cells #[.int .i64 ((rd_T34 t246 x7_2).f0), .int .i64 ((rd_T34 t246 x7_2).f1)] 34 (0, 0)) (by (with_reducible repeat (first | refine blk_drewN ?_ _ | refine blk_drew ?_ | refine blk_alloc ?_ _)); refine blk_far ?_ NB261_262.out _; (with_reducible repeat (first | refine blk_drewN ?_ _ | refine blk_drew ?_ | refine blk_alloc ?_ _)); refine blk_far ?_ NB261_262.out _; (with_reducible repeat (first | refine blk_drewN ?_ _ | refine blk_drew ?_ | refine blk_alloc ?_ _)); refine blk_put (cs := #[.int .i64 ((rd_T34 t246 x7_2).f0), .int .i64 0]) ?_ 1 _ rfl; (with_reducible repeat (first | refine blk_drewN ?_ _ | refine blk_drew ?_ | refine blk_alloc ?_ _)); refine blk_put (cs := #[.int .i64 0, .int .i64 0]) ?_ 0 _ rfl; (with_reducible repeat (first | refine blk_drewN ?_ _ | refine blk_drew ?_ | refine blk_alloc ?_ _)); exact BK261.out) hg (Kd.R_away HO_6.out (fun _ hk => hk.2.2.1))); have n5_ := Aside0.mk (blk_grown (g := gb262) (o := .cells #[.int .i64 ((rd_T34 t246 (ji51)).f0), .int .i64 ((rd_T34 t246 (ji51)).f1)] 34 (0, 0)) (by (with_reducible repeat (first | refine blk_drewN ?_ _ | refine blk_drew ?_ | refine blk_alloc ?_ _)); refine blk_put (cs := #[.int .i64 ((rd_T34 t246 (ji51)).f0), .int .i64 0]) ?_ 1 _ rfl; (with_reducible repeat (first | refine blk_drewN ?_ _ | refine blk_drew ?_ | refine blk_alloc ?_ _)); refine blk_put (cs := #[.int .i64 0, .int .i64 0]) ?_ 0 _ rfl; (with_reducible repeat (first | refine blk_drewN ?_ _ | refine blk_drew ?_ | refine blk_alloc ?_ _)); refine blk_far ?_ NB262_261.out _; (with_reducible repeat (first | refine blk_drewN ?_ _ | refine blk_drew ?_ | refine blk_alloc ?_ _)); refine blk_far ?_ NB262_261.out _; (with_reducible repeat (first | refine blk_drewN ?_ _ | refine blk_drew ?_ | refine blk_alloc ?_ _)); exact BK262.out) hg (Kd.R_away HO_6.out (fun _ hk => hk.2.2.2))); have n6_ := Aside0.mk (hb); have n7_ := Aside0.mk (ho); clear HO_251001; clear HO_257001; clear BK250; clear BK256; clear BK261; clear BK262; clear HB; clear HO_6; have HO_251001 := n0_; have HO_257001 := n1_; have BK250 := n2_; have BK256 := n3_; have BK261 := n4_; have BK262 := n5_; have HB := n6_; have HO265 := n7_; clear n0_ n1_ n2_ n3_ n4_ n5_ n6_ n7_; clear ho hb hg hat))
                 go_meet
                 case rel => exact ⟨_, (y263), H', ⟨by have := HJ22.out; have := HK2.out; first | omega | exact Nat.le_refl _⟩, ⟨by (with_reducible repeat (first | apply Kd.R_alloc | apply Kd.R_drewN | apply Kd.R_drew)); exact HO265.out⟩, ⟨by (with_reducible repeat (first | apply Kd.R_alloc | apply Kd.R_drewN | apply Kd.R_drew)); exact Kd.R_mono HO_251001.out (fun _ hk => ⟨hk.2, ⟨hk.1.1, ⟨hk.1.2.1, hk.1.2.2⟩⟩⟩)⟩, ⟨by (with_reducible repeat (first | apply Kd.R_alloc | apply Kd.R_drewN | apply Kd.R_drew)); exact Kd.R_mono HO_257001.out (fun _ hk => ⟨hk.2, ⟨hk.1.1, ⟨hk.1.2.1, hk.1.2.2⟩⟩⟩)⟩, ⟨by (with_reducible repeat (first | refine blk_drewN ?_ _ | refine blk_drew ?_ | refine blk_alloc ?_ _)); exact BK250.out⟩, ⟨by (with_reducible repeat (first | refine blk_drewN ?_ _ | refine blk_drew ?_ | refine blk_alloc ?_ _)); exact BK256.out⟩, ⟨by (with_reducible repeat (first | refine blk_drewN ?_ _ | refine blk_drew ?_ | refine blk_alloc ?_ _)); exact BK261.out⟩, ⟨by (with_reducible repeat (first | refine blk_drewN ?_ _ | refine blk_drew ?_ | refine blk_alloc ?_ _)); exact BK262.out⟩, ⟨by repeat (first | (with_reducible first | exact HB.out | apply below_alloc | apply pw_below_drewN | apply below_drew1 | refine below_set ?_ GE250.out | refine below_set ?_ GE256.out | refine below_set ?_ GE261.out | refine below_set ?_ GE262.out) | exact HB.out)⟩⟩
                ·rw [if_neg c94] at H
                 exact absurd H (by simp)
               ·rw [if_neg c93] at H
                have c93b0 : ((x6_2.length : Int) == 0) = false := beq_eq_false_iff_ne.mpr c93
                have c93b1 : ((x6_2.length : Int) != 0) = true := bne_iff_ne.mpr c93
                have c93b2 : ¬ (x6_2 = []) := fun h_ => c93 (by rw [h_]; rfl)
                (first | rw [c93b0] | (simp only [i64_w, i32_w]; rw [c93b0]) | skip)
                have H' := Aside0.mk H
                clear H
                go_wp2
                go_meet
                case rel => exact ⟨_, (x6_2), H', ⟨by have := HJ22.out; have := HK2.out; first | omega | exact Nat.le_refl _⟩, ⟨by (with_reducible repeat (first | apply Kd.R_alloc | apply Kd.R_drewN | apply Kd.R_drew)); exact Kd.R_mono (Kd.R_far (p := ⟨gb262, 1, none⟩) (Kd.R_far (p := ⟨gb262, 0, none⟩) (Kd.R_far (p := ⟨gb261, 1, none⟩) (Kd.R_far (p := ⟨gb261, 0, none⟩) (Kd.R_mono (Kd.R_mono HO_6.out (fun k_ hk => (⟨hk, hk.2.2.1⟩ : _ ∧ k_ ≠ gb261))) (fun k_ hk => (⟨hk, hk.1.2.2.2⟩ : _ ∧ k_ ≠ gb262))) (fun _ hk => hk.1.2) (.int .i64 ((rd_T34 t246 x7_2).f0))) (fun _ hk => hk.1.2) (.int .i64 ((rd_T34 t246 x7_2).f1))) (fun _ hk => hk.2) (.int .i64 ((rd_T34 t246 (ji51)).f0))) (fun _ hk => hk.2) (.int .i64 ((rd_T34 t246 (ji51)).f1))) (fun _ hk => ⟨hk.1.1.1, ⟨hk.1.1.2.1, ⟨hk.1.1.2.2.1, hk.1.1.2.2.2⟩⟩⟩)⟩, ⟨by (with_reducible repeat (first | apply Kd.R_alloc | apply Kd.R_drewN | apply Kd.R_drew)); exact Kd.R_mono (Kd.R_far (p := ⟨gb262, 1, none⟩) (Kd.R_far (p := ⟨gb262, 0, none⟩) (Kd.R_far (p := ⟨gb261, 1, none⟩) (Kd.R_far (p := ⟨gb261, 0, none⟩) (Kd.R_mono (Kd.R_mono HO_251001.out (fun k_ hk => (⟨hk, hk.2.2.1⟩ : _ ∧ k_ ≠ gb261))) (fun k_ hk => (⟨hk, hk.1.2.2.2⟩ : _ ∧ k_ ≠ gb262))) (fun _ hk => hk.1.2) (.int .i64 ((rd_T34 t246 x7_2).f0))) (fun _ hk => hk.1.2) (.int .i64 ((rd_T34 t246 x7_2).f1))) (fun _ hk => hk.2) (.int .i64 ((rd_T34 t246 (ji51)).f0))) (fun _ hk => hk.2) (.int .i64 ((rd_T34 t246 (ji51)).f1))) (fun _ hk => ⟨hk.1.1.2.1, ⟨hk.1.1.1, ⟨hk.1.1.2.2.1, hk.1.1.2.2.2⟩⟩⟩)⟩, ⟨by (with_reducible repeat (first | apply Kd.R_alloc | apply Kd.R_drewN | apply Kd.R_drew)); exact Kd.R_mono (Kd.R_far (p := ⟨gb262, 1, none⟩) (Kd.R_far (p := ⟨gb262, 0, none⟩) (Kd.R_far (p := ⟨gb261, 1, none⟩) (Kd.R_far (p := ⟨gb261, 0, none⟩) (Kd.R_mono (Kd.R_mono HO_257001.out (fun k_ hk => (⟨hk, hk.2.2.1⟩ : _ ∧ k_ ≠ gb261))) (fun k_ hk => (⟨hk, hk.1.2.2.2⟩ : _ ∧ k_ ≠ gb262))) (fun _ hk => hk.1.2) (.int .i64 ((rd_T34 t246 x7_2).f0))) (fun _ hk => hk.1.2) (.int .i64 ((rd_T34 t246 x7_2).f1))) (fun _ hk => hk.2) (.int .i64 ((rd_T34 t246 (ji51)).f0))) (fun _ hk => hk.2) (.int .i64 ((rd_T34 t246 (ji51)).f1))) (fun _ hk => ⟨hk.1.1.2.1, ⟨hk.1.1.1, ⟨hk.1.1.2.2.1, hk.1.1.2.2.2⟩⟩⟩)⟩, ⟨by (with_reducible repeat (first | refine blk_drewN ?_ _ | refine blk_drew ?_ | refine blk_alloc ?_ _)); refine blk_far ?_ NB250_262.out _; (with_reducible repeat (first | refine blk_drewN ?_ _ | refine blk_drew ?_ | refine blk_alloc ?_ _)); refine blk_far ?_ NB250_262.out _; (with_reducible repeat (first | refine blk_drewN ?_ _ | refine blk_drew ?_ | refine blk_alloc ?_ _)); refine blk_far ?_ NB250_261.out _; (with_reducible repeat (first | refine blk_drewN ?_ _ | refine blk_drew ?_ | refine blk_alloc ?_ _)); refine blk_far ?_ NB250_261.out _; (with_reducible repeat (first | refine blk_drewN ?_ _ | refine blk_drew ?_ | refine blk_alloc ?_ _)); exact BK250.out⟩, ⟨by (with_reducible repeat (first | refine blk_drewN ?_ _ | refine blk_drew ?_ | refine blk_alloc ?_ _)); refine blk_far ?_ NB256_262.out _; (with_reducible repeat (first | refine blk_drewN ?_ _ | refine blk_drew ?_ | refine blk_alloc ?_ _)); refine blk_far ?_ NB256_262.out _; (with_reducible repeat (first | refine blk_drewN ?_ _ | refine blk_drew ?_ | refine blk_alloc ?_ _)); refine blk_far ?_ NB256_261.out _; (with_reducible repeat (first | refine blk_drewN ?_ _ | refine blk_drew ?_ | refine blk_alloc ?_ _)); refine blk_far ?_ NB256_261.out _; (with_reducible repeat (first | refine blk_drewN ?_ _ | refine blk_drew ?_ | refine blk_alloc ?_ _)); exact BK256.out⟩, ⟨by (with_reducible repeat (first | refine blk_drewN ?_ _ | refine blk_drew ?_ | refine blk_alloc ?_ _)); refine blk_far ?_ NB261_262.out _; (with_reducible repeat (first | refine blk_drewN ?_ _ | refine blk_drew ?_ | refine blk_alloc ?_ _)); refine blk_far ?_ NB261_262.out _; (with_reducible repeat (first | refine blk_drewN ?_ _ | refine blk_drew ?_ | refine blk_alloc ?_ _)); refine blk_put (cs := #[.int .i64 ((rd_T34 t246 x7_2).f0), .int .i64 0]) ?_ 1 _ rfl; (with_reducible repeat (first | refine blk_drewN ?_ _ | refine blk_drew ?_ | refine blk_alloc ?_ _)); refine blk_put (cs := #[.int .i64 0, .int .i64 0]) ?_ 0 _ rfl; (with_reducible repeat (first | refine blk_drewN ?_ _ | refine blk_drew ?_ | refine blk_alloc ?_ _)); exact BK261.out⟩, ⟨by (with_reducible repeat (first | refine blk_drewN ?_ _ | refine blk_drew ?_ | refine blk_alloc ?_ _)); refine blk_put (cs := #[.int .i64 ((rd_T34 t246 (ji51)).f0), .int .i64 0]) ?_ 1 _ rfl; (with_reducible repeat (first | refine blk_drewN ?_ _ | refine blk_drew ?_ | refine blk_alloc ?_ _)); refine blk_put (cs := #[.int .i64 0, .int .i64 0]) ?_ 0 _ rfl; (with_reducible repeat (first | refine blk_drewN ?_ _ | refine blk_drew ?_ | refine blk_alloc ?_ _)); refine blk_far ?_ NB262_261.out _; (with_reducible repeat (first | refine blk_drewN ?_ _ | refine blk_drew ?_ | refine blk_alloc ?_ _)); refine blk_far ?_ NB262_261.out _; (with_reducible repeat (first | refine blk_drewN ?_ _ | refine blk_drew ?_ | refine blk_alloc ?_ _)); exact BK262.out⟩, ⟨by repeat (first | (with_reducible first | exact HB.out | apply below_alloc | apply pw_below_drewN | apply below_drew1 | refine below_set ?_ GE250.out | refine below_set ?_ GE256.out | refine below_set ?_ GE261.out | refine below_set ?_ GE262.out) | exact HB.out)⟩⟩
              case rest =>
               clear HC73
               try clear c2
               try clear p2
               try clear q2
               try clear hx2
               try clear c5
               try clear c6
               try clear p6
               try clear c7
               try clear c8
               try clear c9
               try clear p25
               try clear q25
               try clear hx25
               try clear c26
               try clear p26
               try clear q26
               try clear hx26
               try clear c54
               try clear c54b0
               try clear c54b1
               try clear c54b2
               try clear p64
               try clear c66
               try clear c67
               try clear c68
               try clear c70
               try clear c71
               try clear c74
               try clear c85
               try clear c86
               try clear c87
               try clear c89
               try clear c90
               try clear c93
               try clear c93b0
               try clear c93b1
               try clear c93b2
               try clear c94
               try clear c95
               try clear c96
               try clear c97
               try clear hcz69_0
               try clear hcz69_1
               try clear hcz72_0
               try clear hcz72_1
               try clear hcz75_0
               try clear hcz75_1
               try clear hcz88_0
               try clear hcz88_1
               try clear hcz91_0
               try clear hcz91_1
               try clear hcz98_0
               try clear hcz98_1
               try clear hfz69_0
               try clear hfz69_1
               try clear hfz72_0
               try clear hfz72_1
               try clear hfz75_0
               try clear hfz75_1
               try clear hfz88_0
               try clear hfz88_1
               try clear hfz91_0
               try clear hfz91_1
               try clear hfz98_0
               try clear hfz98_1
               try clear hx259_0
               try clear hx259_1
               try clear hx260_0
               try clear hx260_1
               try clear p259
               try clear p260
               try clear q259
               try clear q260
               obtain ⟨kq, x6_72, HA, HJ72, HO_6, HO_251001, HO_257001, BK250, BK256, BK261, BK262, HB⟩ := hcut
               cases kq with
               | zero => exact absurd HA.out (by simp [mutoscopelaw9_ArcWhole.j2])
               | succ kj72 =>
                have H := HA.out
                clear HA
                simp only [mutoscopelaw9_ArcWhole.j2] at H
                by_cases c100 : x6_72.length < 8796093022208
                ·rw [if_pos c100] at H
                 have LMc100 := Aside0.mk c100
                 clear c100
                 obtain ⟨y266, hy266⟩ : ∃ y_ : List (S34), y_ = (x6_72 ++ [(⟨((rd_T34 t246 (ji51)).f0), ((rd_T34 t246 (ji51)).f1)⟩ : S34)]) := ⟨_, rfl⟩
                 replace H : (mutoscopelaw9_ArcWhole.l0 kj72 t251 y266 (wrap64 (x7_2 + 1)) t245 t246 t252 t253) = some r := by first | (rw [hy266]; with_reducible exact H) | (have H2_ := (Option.bind_some _ _).symm.trans H; rw [hy266]; with_reducible exact H2_) | (have H2_ := (Option.bind_some _ _).symm.trans H; with_reducible exact H2_) | with_reducible exact H | (rw [hy266]; exact H) | exact H
                 have Ny266 := Aside0.mk hy266
                 clear hy266
                 have H' := Aside0.mk H
                 clear H
                 have hnb101 := NB262_250.out
                 have hnc101 := NB250_262.out
                 have hnb102 := NB262_256.out
                 have hnc102 := NB256_262.out
                 have hnb103 := NB262_261.out
                 have hnc103 := NB261_262.out
                 have hcz104_0 : wc.cell? ⟨gb262, 0, none⟩ = some (.int .i64 ((rd_T34 t246 (ji51)).f0)) := (blk_cell BK262.out 0).trans rfl
                 have hcz104_1 : wc.cell? ⟨gb262, 1, none⟩ = some (.int .i64 ((rd_T34 t246 (ji51)).f1)) := (blk_cell BK262.out 1).trans rfl
                 have hfz104_0 := blk_frozen BK262.out 0
                 have hfz104_1 := blk_frozen BK262.out 1
                 go_wp2_with (first | ((with_reducible refine gate_builtin (b := .append) (xs := #[.tmp 67, .tmp 69]) rfl ?_); (try (refine gate_guard (by rfl) ?_; dsimp only)); at_builtin; refine Kd.R_append k34 (w0 := w) w.heap.size rfl (.tmp 67) (.tmp 69) 27 34 (.agg #[(.int .i64 0), (.int .i64 0)]) 16 rfl Try.underlying27 info34 rfl (by decide) (by omega) u6 x6_72 (⟨((rd_T34 t246 (ji51)).f0), ((rd_T34 t246 (ji51)).f1)⟩ : S34) [.int .i64 ((rd_T34 t246 (ji51)).f0), .int .i64 ((rd_T34 t246 (ji51)).f1)] (fun k_ => some k_ ≠ (.slice (some ad259) t246.length co29 : Value).ownBlock ∧ some k_ ≠ (.slice Ao37 t253.length co37 : Value).ownBlock ∧ k_ ≠ gb261 ∧ k_ ≠ gb262) (fun _ => False) rfl rfl ?aP (fun _ hk => hk.elim) ?aF ?aO ?aB ?aS ?aL ?_; (case aP => exact k34_mkM _ _ _ (⟨((rd_T34 t246 (ji51)).f0), ((rd_T34 t246 (ji51)).f1)⟩ : S34)); (case aB => exact (by repeat (first | (with_reducible first | exact HB.out | apply below_alloc | apply pw_below_drewN | apply below_drew1 | refine below_set ?_ GE250.out | refine below_set ?_ GE256.out | refine below_set ?_ GE261.out | refine below_set ?_ GE262.out) | exact HB.out))); (case aF => exact (fun k_ hk => ⟨Kd.fresh' (Kd.R_lt (by (with_reducible repeat (first | apply Kd.R_alloc | apply Kd.R_drewN | apply Kd.R_drew)); exact HO_251001.out)) k_ hk, Kd.fresh' (Kd.R_lt (by (with_reducible repeat (first | apply Kd.R_alloc | apply Kd.R_drewN | apply Kd.R_drew)); exact HO_257001.out)) k_ hk, Kd.freshB (g := gb261) (o := .cells #[.int .i64 ((rd_T34 t246 x7_2).f0), .int .i64 ((rd_T34 t246 x7_2).f1)] 34 (0, 0)) (by (with_reducible repeat (first | refine blk_drewN ?_ _ | refine blk_drew ?_ | refine blk_alloc ?_ _)); exact BK261.out) k_ hk, Kd.freshB (g := gb262) (o := .cells #[.int .i64 ((rd_T34 t246 (ji51)).f0), .int .i64 ((rd_T34 t246 (ji51)).f1)] 34 (0, 0)) (by (with_reducible repeat (first | refine blk_drewN ?_ _ | refine blk_drew ?_ | refine blk_alloc ?_ _)); exact BK262.out) k_ hk⟩)); (case aO => exact (by (with_reducible repeat (first | apply Kd.R_alloc | apply Kd.R_drewN | apply Kd.R_drew)); exact HO_6.out)); (case aS => exact (below_size (by repeat (first | (with_reducible first | exact HB.out | apply below_alloc | apply pw_below_drewN | apply below_drew1 | refine below_set ?_ GE250.out | refine below_set ?_ GE256.out | refine below_set ?_ GE261.out | refine below_set ?_ GE262.out) | exact HB.out)))); (case aL => have := LMc100.out; omega); intro v267 w105 ho hb hg hat; rw [← Ny266.out] at ho; have n0_ := Aside0.mk (Kd.R_after (ok := (fun k_ => some k_ ≠ (.slice Ao37 t253.length co37 : Value).ownBlock ∧ k_ ≠ gb261 ∧ k_ ≠ gb262)) (by (with_reducible repeat (first | apply Kd.R_alloc | apply Kd.R_drewN | apply Kd.R_drew)); exact Kd.R_mono HO_251001.out (fun _ hk => ⟨⟨hk.2.1, ⟨hk.2.2.1, hk.2.2.2⟩⟩, hk.1⟩)) hg hat); have n1_ := Aside0.mk (Kd.R_after (ok := (fun k_ => some k_ ≠ (.slice (some ad259) t246.length co29 : Value).ownBlock ∧ k_ ≠ gb261 ∧ k_ ≠ gb262)) (by (with_reducible repeat (first | apply Kd.R_alloc | apply Kd.R_drewN | apply Kd.R_drew)); exact Kd.R_mono HO_257001.out (fun _ hk => ⟨⟨hk.2.1, ⟨hk.2.2.1, hk.2.2.2⟩⟩, hk.1⟩)) hg hat); have n2_ := Aside0.mk (blk_grown (g := gb250) (o := .cells #[.bool t245, .slice (some ad259) t246.length co29] 39 (0, 0)) (by (with_reducible repeat (first | refine blk_drewN ?_ _ | refine blk_drew ?_ | refine blk_alloc ?_ _)); exact BK250.out) hg (Kd.R_ne HO_6.out BK250.out (by decide))); have n3_ := Aside0.mk (blk_grown (g := gb256) (o := .cells #[.bool t252, .slice Ao37 t253.length co37] 39 (0, 0)) (by (with_reducible repeat (first | refine blk_drewN ?_ _ | refine blk_drew ?_ | refine blk_alloc ?_ _)); exact BK256.out) hg (Kd.R_ne HO_6.out BK256.out (by decide))); have n4_ := Aside0.mk (blk_grown (g := gb261) (o := .cells #[.int .i64 ((rd_T34 t246 x7_2).f0), .int .i64 ((rd_T34 t246 x7_2).f1)] 34 (0, 0)) (by (with_reducible repeat (first | refine blk_drewN ?_ _ | refine blk_drew ?_ | refine blk_alloc ?_ _)); exact BK261.out) hg (Kd.R_away HO_6.out (fun _ hk => hk.2.2.1))); have n5_ := Aside0.mk (blk_grown (g := gb262) (o := .cells #[.int .i64 ((rd_T34 t246 (ji51)).f0), .int .i64 ((rd_T34 t246 (ji51)).f1)] 34 (0, 0)) (by (with_reducible repeat (first | refine blk_drewN ?_ _ | refine blk_drew ?_ | refine blk_alloc ?_ _)); exact BK262.out) hg (Kd.R_away HO_6.out (fun _ hk => hk.2.2.2))); have n6_ := Aside0.mk (hb); have n7_ := Aside0.mk (ho); clear HO_251001; clear HO_257001; clear BK250; clear BK256; clear BK261; clear BK262; clear HB; clear HO_6; have HO_251001 := n0_; have HO_257001 := n1_; have BK250 := n2_; have BK256 := n3_; have BK261 := n4_; have BK262 := n5_; have HB := n6_; have HO268 := n7_; clear n0_ n1_ n2_ n3_ n4_ n5_ n6_ n7_; clear ho hb hg hat))
                 go_roundg kj72
                 case measure => have := HJ22.out; have := HK2.out; have := HJ72.out; omega
                 case rel => exact ⟨(y266), (wrap64 (x7_2 + 1)), (by first | rfl | (simp; done) | (simp [*]; done)), H', ⟨by have := HJ22.out; have := HK2.out; have := HJ72.out; omega⟩, ⟨by (with_reducible repeat (first | apply Kd.R_alloc | apply Kd.R_drewN | apply Kd.R_drew)); exact Kd.R_mono HO268.out (fun _ hk => ⟨hk.1, hk.2.1⟩)⟩, ⟨by (with_reducible repeat (first | apply Kd.R_alloc | apply Kd.R_drewN | apply Kd.R_drew)); exact Kd.R_mono HO_251001.out (fun _ hk => ⟨hk.2, hk.1.1⟩)⟩, ⟨by (with_reducible repeat (first | apply Kd.R_alloc | apply Kd.R_drewN | apply Kd.R_drew)); exact Kd.R_mono HO_257001.out (fun _ hk => ⟨hk.2, hk.1.1⟩)⟩, ⟨by (with_reducible repeat (first | refine blk_drewN ?_ _ | refine blk_drew ?_ | refine blk_alloc ?_ _)); exact BK250.out⟩, ⟨by (with_reducible repeat (first | refine blk_drewN ?_ _ | refine blk_drew ?_ | refine blk_alloc ?_ _)); exact BK256.out⟩, ⟨by repeat (first | (with_reducible first | exact HB.out | apply below_alloc | apply pw_below_drewN | apply below_drew1 | refine below_set ?_ GE250.out | refine below_set ?_ GE256.out | refine below_set ?_ GE261.out | refine below_set ?_ GE262.out) | exact HB.out)⟩⟩
                ·rw [if_neg c100] at H
                 exact absurd H (by simp)
            ·rw [if_neg c53] at H
             exact absurd H (by simp)
           ·rw [if_neg c52] at H
            exact absurd H (by simp)
         ·rw [if_neg c49] at H
          exact absurd H (by simp)
        ·rw [if_neg c48] at H
         exact absurd H (by simp)
       ·rw [if_neg c47] at H
        have c47b0 : decide (x7_2 < t258) = false := decide_eq_false c47
        clear c47
        replace H := Option.bind_eq_some_iff.mp H
        obtain ⟨t269, A1060, H⟩ := H
        replace H : (if t269 = true then ((arc_Length.f k2 t252 t253).bind fun t270 => (if t270 = t251 then ((mutoscopelaw9_known.f k2).bind fun t271 => (some t271)) else (none))) else (none)) = some r := H
        have A106 := Aside0.mk A1060
        clear A1060
        by_cases c107 : t269 = true
        ·subst c107
         have H1 : ((arc_Length.f k2 t252 t253).bind fun t270 => (if t270 = t251 then ((mutoscopelaw9_known.f k2).bind fun t271 => (some t271)) else (none))) = some r := by rw [if_pos rfl] at H; exact H
         clear H
         have H := H1
         clear H1
         replace H := Option.bind_eq_some_iff.mp H
         obtain ⟨t270, A1080, H⟩ := H
         replace H : (if t270 = t251 then ((mutoscopelaw9_known.f k2).bind fun t271 => (some t271)) else (none)) = some r := H
         have A108 := Aside0.mk A1080
         clear A1080
         by_cases c109 : t270 = t251
         ·rw [if_pos c109] at H
          have c109b0 : (t270 == t251) = true := beq_iff_eq.mpr c109
          have c109b1 : (t270 != t251) = false := bne_eq_false_iff_eq.mpr c109
          clear c109
          replace H := Option.bind_eq_some_iff.mp H
          obtain ⟨t271, A1100, H⟩ := H
          replace H : (some t271) = some r := H
          have A110 := Aside0.mk A1100
          clear A1100
          obtain rfl := Option.some.inj H
          have hnb111 := NB250_256.out
          have hnc111 := NB256_250.out
          have hcz112_0 : wr.cell? ⟨gb250, 0, none⟩ = some (.bool t245) := (blk_cell BK250.out 0).trans rfl
          have hcz112_1 : wr.cell? ⟨gb250, 1, none⟩ = some (.slice Ao29 t246.length co29) := (blk_cell BK250.out 1).trans rfl
          have hfz112_0 := blk_frozen BK250.out 0
          have hfz112_1 := blk_frozen BK250.out 1
          go_wp2_with (first | ((with_reducible refine gate_callee (f := 26) rfl ?_); refine goesL_ (some 38) rfl rfl Try.func26 (by kernel_rfl) rfl #[.agg #[.bool t245, .slice Ao29 t246.length co29]] rfl (by (try simp only [List.map_toArray, List.map_cons, List.map_nil]); first | done | rfl | (simp only [List.length_drop, List.length_take]; rfl)) ?_; (with_reducible refine (arc_Sides.calls t245 _ _ t246 t258 _ ?side1 ?side2 A46.out).mono ?_); (case side1 => repeat (first | exact (Kd.R_reads' HO_251001.out).2.2 | (with_reducible refine Kd.C_alloc ?_ _) | (with_reducible refine Kd.C_drewN ?_ _) | (with_reducible refine Kd.C_drew ?_))); (case side2 => exact (Kd.R_reads' HO_251001.out).2.1); rintro e w113 ⟨rfl, hb⟩; refine ⟨_, rfl, ?_⟩; have n0_ := Aside0.mk (Kd.R_below (by (with_reducible repeat (first | apply Kd.R_alloc | apply Kd.R_drewN | apply Kd.R_drew)); exact HO_6.out) hb); have n1_ := Aside0.mk (Kd.R_below (by (with_reducible repeat (first | apply Kd.R_alloc | apply Kd.R_drewN | apply Kd.R_drew)); exact HO_251001.out) hb); have n2_ := Aside0.mk (Kd.R_below (by (with_reducible repeat (first | apply Kd.R_alloc | apply Kd.R_drewN | apply Kd.R_drew)); exact HO_257001.out) hb); have n3_ := Aside0.mk (blk_below (g := gb250) (o := .cells #[.bool t245, .slice Ao29 t246.length co29] 39 (0, 0)) (by (with_reducible repeat (first | refine blk_drewN ?_ _ | refine blk_drew ?_ | refine blk_alloc ?_ _)); exact BK250.out) hb); have n4_ := Aside0.mk (blk_below (g := gb256) (o := .cells #[.bool t252, .slice Ao37 t253.length co37] 39 (0, 0)) (by (with_reducible repeat (first | refine blk_drewN ?_ _ | refine blk_drew ?_ | refine blk_alloc ?_ _)); exact BK256.out) hb); have n5_ := Aside0.mk (below_step (by repeat (first | (with_reducible first | exact HB.out | apply below_alloc | apply pw_below_drewN | apply below_drew1 | refine below_set ?_ GE250.out | refine below_set ?_ GE256.out) | exact HB.out)) hb); clear HO_6; clear HO_251001; clear HO_257001; clear BK250; clear BK256; clear HB; have HO_6 := n0_; have HO_251001 := n1_; have HO_257001 := n2_; have BK250 := n3_; have BK256 := n4_; have HB := n5_; clear n0_ n1_ n2_ n3_ n4_ n5_; (try clear hb); (try clear hb2); (try clear hk); (try clear hi); have hcz114_0 : w113.cell? ⟨gb256, 0, none⟩ = some (.bool t252) := (blk_cell BK256.out 0).trans rfl; have hcz114_1 : w113.cell? ⟨gb256, 1, none⟩ = some (.slice Ao37 t253.length co37) := (blk_cell BK256.out 1).trans rfl; have hfz114_0 := blk_frozen BK256.out 0; have hfz114_1 := blk_frozen BK256.out 1; obtain ⟨Ao115, co115, eo115⟩ := Kd.R_slice HO_6.out; subst eo115) | ((with_reducible refine gate_callee (f := 27) rfl ?_); refine goesL_ (some 74) rfl rfl Try.func27 (by kernel_rfl) rfl #[.slice Ao37 t253.length co37, .slice Ao115 x6_2.length co115] rfl (by (try simp only [List.map_toArray, List.map_cons, List.map_nil]); first | done | rfl | (simp only [List.length_drop, List.length_take]; rfl)) ?_; (with_reducible refine (mutoscoperef8_Points.calls k2 _ _ t253 _ _ x6_2 true _ ?side1 ?side2 ?side3 ?side4 A106.out).mono ?_); (case side1 => repeat (first | exact (Kd.R_reads' HO_257001.out).2.2 | (with_reducible refine Kd.C_alloc ?_ _) | (with_reducible refine Kd.C_drewN ?_ _) | (with_reducible refine Kd.C_drew ?_))); (case side2 => exact (Kd.R_reads' HO_257001.out).2.1); (case side3 => repeat (first | exact (Kd.R_reads' HO_6.out).2.2 | (with_reducible refine Kd.C_alloc ?_ _) | (with_reducible refine Kd.C_drewN ?_ _) | (with_reducible refine Kd.C_drew ?_))); (case side4 => exact (Kd.R_reads' HO_6.out).2.1); rintro e w' ⟨rfl, ⟨nd, rfl⟩⟩; refine ⟨_, rfl, ?_⟩) | (go_at_call 23; (with_reducible refine (arc_Length.calls k2 t252 _ _ t253 t270 _ ?side1 ?side2 A108.out).mono ?_); (case side1 => repeat (first | exact (Kd.R_reads' HO_257001.out).2.2 | (with_reducible refine Kd.C_alloc ?_ _) | (with_reducible refine Kd.C_drewN ?_ _) | (with_reducible refine Kd.C_drew ?_))); (case side2 => exact (Kd.R_reads' HO_257001.out).2.1); rintro e w116 ⟨rfl, hb⟩; have n0_ := Aside0.mk (Kd.R_below (by (with_reducible repeat (first | apply Kd.R_alloc | apply Kd.R_drewN | apply Kd.R_drew)); exact HO_6.out) hb); have n1_ := Aside0.mk (Kd.R_below (by (with_reducible repeat (first | apply Kd.R_alloc | apply Kd.R_drewN | apply Kd.R_drew)); exact HO_251001.out) hb); have n2_ := Aside0.mk (Kd.R_below (by (with_reducible repeat (first | apply Kd.R_alloc | apply Kd.R_drewN | apply Kd.R_drew)); exact HO_257001.out) hb); have n3_ := Aside0.mk (blk_below (g := gb250) (o := .cells #[.bool t245, .slice Ao29 t246.length co29] 39 (0, 0)) (by (with_reducible repeat (first | refine blk_drewN ?_ _ | refine blk_drew ?_ | refine blk_alloc ?_ _)); exact BK250.out) hb); have n4_ := Aside0.mk (blk_below (g := gb256) (o := .cells #[.bool t252, .slice Ao37 t253.length co37] 39 (0, 0)) (by (with_reducible repeat (first | refine blk_drewN ?_ _ | refine blk_drew ?_ | refine blk_alloc ?_ _)); exact BK256.out) hb); have n5_ := Aside0.mk (below_step (by repeat (first | (with_reducible first | exact HB.out | apply below_alloc | apply pw_below_drewN | apply below_drew1 | refine below_set ?_ GE250.out | refine below_set ?_ GE256.out) | exact HB.out)) hb); clear HO_6; clear HO_251001; clear HO_257001; clear BK250; clear BK256; clear HB; have HO_6 := n0_; have HO_251001 := n1_; have HO_257001 := n2_; have BK250 := n3_; have BK256 := n4_; have HB := n5_; clear n0_ n1_ n2_ n3_ n4_ n5_; (try clear hb); (try clear hb2); (try clear hk); (try clear hi)) | (go_at_call 25; (with_reducible refine (mutoscopelaw9_known.calls k2  t271 _ A110.out).mono ?_); rintro e w117 ⟨rfl, hb⟩; have n0_ := Aside0.mk (Kd.R_below (by (with_reducible repeat (first | apply Kd.R_alloc | apply Kd.R_drewN | apply Kd.R_drew)); exact HO_6.out) hb); have n1_ := Aside0.mk (Kd.R_below (by (with_reducible repeat (first | apply Kd.R_alloc | apply Kd.R_drewN | apply Kd.R_drew)); exact HO_251001.out) hb); have n2_ := Aside0.mk (Kd.R_below (by (with_reducible repeat (first | apply Kd.R_alloc | apply Kd.R_drewN | apply Kd.R_drew)); exact HO_257001.out) hb); have n3_ := Aside0.mk (blk_below (g := gb250) (o := .cells #[.bool t245, .slice Ao29 t246.length co29] 39 (0, 0)) (by (with_reducible repeat (first | refine blk_drewN ?_ _ | refine blk_drew ?_ | refine blk_alloc ?_ _)); exact BK250.out) hb); have n4_ := Aside0.mk (blk_below (g := gb256) (o := .cells #[.bool t252, .slice Ao37 t253.length co37] 39 (0, 0)) (by (with_reducible repeat (first | refine blk_drewN ?_ _ | refine blk_drew ?_ | refine blk_alloc ?_ _)); exact BK256.out) hb); have n5_ := Aside0.mk (below_step (by repeat (first | (with_reducible first | exact HB.out | apply below_alloc | apply pw_below_drewN | apply below_drew1 | refine below_set ?_ GE250.out | refine below_set ?_ GE256.out) | exact HB.out)) hb); clear HO_6; clear HO_251001; clear HO_257001; clear BK250; clear BK256; clear HB; have HO_6 := n0_; have HO_251001 := n1_; have HO_257001 := n2_; have BK250 := n3_; have BK256 := n4_; have HB := n5_; clear n0_ n1_ n2_ n3_ n4_ n5_; (try clear hb); (try clear hb2); (try clear hk); (try clear hi)))
          go_ret
          exact ⟨by first | rfl | (simp [errW_none, errW_some] <;> rfl) | (simp [*, errW_none, errW_some] <;> rfl), by repeat (first | (with_reducible first | exact HB.out | apply below_alloc | apply pw_below_drewN | apply below_drew1 | refine below_set ?_ GE250.out | refine below_set ?_ GE256.out) | exact HB.out)⟩
         ·rw [if_neg c109] at H
          exact absurd H (by simp)
        ·replace c107 := Bool.eq_false_iff.mpr c107
         subst c107
         have H1 : (none) = some r := by rw [if_neg (show ¬ (false = true) by decide)] at H; exact H
         clear H
         have H := H1
         clear H1
         exact absurd H (by simp)
def mutoscopelaw9_ArcWhole.Pure : Prop := ∀ (l0 : List Int), l0.length ≤ maxLen → l0.length * 8 ≤ 140737488351232 → (∀ x ∈ l0, (Lit.int .i64 x).wf = true) → ∃ k, mutoscopelaw9_ArcWhole.f k l0 = some true
theorem mutoscopelaw9_ArcWhole.walk (P : mutoscopelaw9_ArcWhole.Pure) (a0 : Option Addr) (len0 cap0 : Nat) (z0 : List Int) (w : World) (w0 : (a0 = none ∧ len0 = 0 ∧ cap0 = 0 ∧ z0 = []) ∨ ∃ x, a0 = some x ∧ len0 ≤ cap0 ∧ cap0 ≤ maxLen ∧ z0.length = cap0 ∧ (∀ i, i < z0.length → w.cell? (x.add i) = some (.int .i64 (z0.getD i 0))) ∧ ∀ n ∈ z0, (Lit.int .i64 n).wf = true) (y0 : len0 * 8 ≤ 140737488351232) :
  Calls Try.prog 4 #[.slice a0 len0 cap0] w fun e w' => e = .returned (.bool true) ∧ Below w.heap.size w w' := by
 obtain ⟨l0, rfl, hr0, hm0, hw0, hc0⟩ := ReadsInt.ofRowC w0
 obtain ⟨k, h⟩ := P l0 hm0 y0 hw0
 refine (mutoscopelaw9_ArcWhole.calls k _ _ l0 true w (Kd.C_of_reads (d := (0 : Int)) (h1 := fun _ => rfl) hr0) hc0 h).mono ?_
 rintro e w' ⟨rfl, hd⟩
 exact ⟨rfl, hd⟩
end Go.Proofs.Ythohhdcngdmbeaa.PW
end

section
set_option linter.unusedVariables false
namespace Go.Proofs.Ythohhdcngdmbeaa.MB
open Go.RowKit
theorem w64 {x : Int} (h : -9223372036854775808 ≤ x) (h' : x ≤ 9223372036854775807) : wrap64 x = x := by unfold wrap64; omega
theorem u64w (x : Int) : IntKind.u64.wrap x = x % 18446744073709551616 := by simp [IntKind.wrap, IntKind.bits, IntKind.signed]
theorem u64id {x : Int} (h : 0 ≤ x) (h' : x < 18446744073709551616) : IntKind.u64.wrap x = x := by rw [u64w]; omega
def cl (a lo hi : Int) : Int := if a < lo then lo else if a > hi then hi else a
def hd (a : Int) : Int := cl a (-1099511627776) 1099511627776
def add (a b : Int) : Int := hd (hd a + hd b)
theorem hd_bd (a : Int) : -1099511627776 ≤ hd a ∧ hd a ≤ 1099511627776 := by unfold hd cl; split <;> (try split) <;> omega
theorem hd_of {a : Int} (h : -1099511627776 ≤ a) (h' : a ≤ 1099511627776) : hd a = a := by unfold hd cl; rw [if_neg (by omega), if_neg (by omega)]
theorem cl_bd (a lo hi : Int) (h : lo ≤ hi) : lo ≤ cl a lo hi ∧ cl a lo hi ≤ hi := by unfold cl; split <;> (try split) <;> omega
theorem cl_of {a lo hi : Int} (h : lo ≤ a) (h' : a ≤ hi) : cl a lo hi = a := by unfold cl; rw [if_neg (by omega), if_neg (by omega)]
def Evt (p : Nat → Prop) : Prop := ∃ n, ∀ k, n ≤ k → p k
theorem Evt.of {p : Nat → Prop} (n : Nat) (h : ∀ k, n ≤ k → p k) : Evt p := ⟨n, h⟩
theorem Evt.all {p : Nat → Prop} (h : ∀ k, p k) : Evt p := ⟨0, fun k _ => h k⟩
theorem Evt.mono {p q : Nat → Prop} (h : Evt p) (hq : ∀ k, p k → q k) : Evt q := h.elim fun n hn => ⟨n, fun k hk => hq k (hn k hk)⟩
theorem Evt.and {p q : Nat → Prop} (h : Evt p) (hq : Evt q) : Evt fun k => p k ∧ q k := by
  obtain ⟨n, hn⟩ := h
  obtain ⟨m, hm⟩ := hq
  exact ⟨max n m, fun k hk => ⟨hn k (by omega), hm k (by omega)⟩⟩
theorem Evt.succ {p q : Nat → Prop} (h : Evt p) (hq : ∀ k, p k → q (k + 1)) : Evt q := by
  obtain ⟨n, hn⟩ := h
  refine ⟨n + 1, fun k hk => ?_⟩
  obtain ⟨m, rfl⟩ : ∃ m, k = m + 1 := ⟨k - 1, by omega⟩
  exact hq m (hn m (by omega))
end Go.Proofs.Ythohhdcngdmbeaa.MB
end

section
set_option linter.unusedVariables false
namespace Go.Proofs.Ythohhdcngdmbeaa.PW
open Go.RowKit Go.Proofs.YthohhdcngdmbeaaW.PrintWords Go.Proofs.YthohhdcngdmbeaaW.PrintLast Go.Proofs.YthohhdcngdmbeaaW.PrintMore Go.Proofs.Ythohhdcngdmbeaa.MB
theorem q_Clamp_eq (a lo hi : Int) : q_Clamp.f a lo hi = some (cl a lo hi) := by
  unfold q_Clamp.f cl; split
  · rfl
  · split <;> rfl
theorem q_Hold_eq (a : Int) : q_Hold.f a = some (hd a) := by unfold q_Hold.f; rw [q_Clamp_eq]; rfl
theorem q_Add_eq (a b : Int) : q_Add.f a b = some (add a b) := by
  unfold q_Add.f
  simp only [q_Hold_eq, Option.bind_some]
  have h1 := hd_bd a
  have h2 := hd_bd b
  rw [w64 (by omega) (by omega)]; rfl
end Go.Proofs.Ythohhdcngdmbeaa.PW
end

section
set_option linter.unusedVariables false
namespace Go.Proofs.Ythohhdcngdmbeaa.PW
open Go.RowKit Go.Proofs.YthohhdcngdmbeaaW.PrintWords Go.Proofs.YthohhdcngdmbeaaW.PrintLast Go.Proofs.YthohhdcngdmbeaaW.PrintMore Go.Proofs.Ythohhdcngdmbeaa.MB
theorem le_mono {α : Type} {f : Nat → Option α} (h : ∀ k, LeO (f k) (f (k + 1))) {n k : Nat} (hk : n ≤ k) {r : α} (e : f n = some r) : f k = some r := by
  induction hk with
  | refl => exact e
  | step _ ih => exact h _ _ ih
theorem or_nat (a b : Nat) (ha : a < 4294967296) (hb : b < 4294967296) : Go.bits .or .u64 (a : Int) (b : Int) = ((a ||| b : Nat) : Int) ∧ a ||| b < 4294967296 ∧ b ≤ a ||| b ∧ a ≤ a ||| b := by
  have h : a ||| b < 2 ^ 32 := Nat.or_lt_two_pow (by omega) (by omega)
  refine ⟨?_, h, Nat.right_le_or, Nat.left_le_or⟩
  simp only [Go.bits, BitVec.ofInt_natCast, BitVec.toNat_or, BitVec.toNat_ofNat]
  have e : ∀ x : Nat, x < 4294967296 → x % 2 ^ IntKind.u64.bits = x := fun x hx => Nat.mod_eq_of_lt (Nat.lt_of_lt_of_le hx (by decide))
  rw [e a ha, e b hb, u64id (by omega) (by omega)]
theorem sq_loop (a : Nat) : ∀ (n x : Nat), n ≤ 32 → x < 4294967296 → ∃ r : Nat, q_square.l0 (n + 1) (a : Int) (x : Int) (((2 ^ n / 2 : Nat) : Int)) = some (r : Int) ∧ r < 4294967296 ∧ (0 < x → 0 < r) ∧ (1 ≤ a → 1 ≤ n → 0 < r) ∧ (a = 0 → x = 0 → r = 0)
  | 0, x, hn, hx => ⟨x, by unfold q_square.l0; rw [if_neg (by decide), w64 (by omega) (by omega)], hx, id, by omega, fun _ h => h⟩
  | n + 1, x, hn, hx => by
    have hp : 0 < 2 ^ n := Nat.two_pow_pos n
    have hq : 2 ^ n ≤ 2 ^ 31 := Nat.pow_le_pow_right (by decide) (by omega)
    have e : 2 ^ (n + 1) / 2 = 2 ^ n := by rw [Nat.pow_succ]; omega
    rw [e]
    obtain ⟨o1, o2, o3, o4⟩ := or_nat x (2 ^ n) hx (by omega)
    unfold q_square.l0
    rw [if_pos (by omega), o1]
    have e2 : (((2 ^ n : Nat) : Int)) / 2 = ((2 ^ n / 2 : Nat) : Int) := by omega
    rw [e2]
    generalize hs : x ||| 2 ^ n = s at *
    have hss : s * s < 18446744073709551616 := by
      have := Nat.mul_le_mul (show s ≤ 4294967295 by omega) (show s ≤ 4294967295 by omega); omega
    have hss1 : 1 ≤ s * s := Nat.mul_le_mul (show 1 ≤ s by omega) (show 1 ≤ s by omega)
    have e3 : ((s : Int) * (s : Int)) = ((s * s : Nat) : Int) := by rw [Int.natCast_mul]
    rw [e3, u64id (by omega) (by omega)]
    by_cases h : s * s ≤ a
    · rw [if_pos (by omega)]
      obtain ⟨r, r1, r2, r3, r4, r5⟩ := sq_loop a n s (by omega) o2
      exact ⟨r, r1, r2, fun _ => r3 (by omega), fun _ _ => r3 (by omega), fun h0 => by omega⟩
    · rw [if_neg (by omega)]
      obtain ⟨r, r1, r2, r3, r4, r5⟩ := sq_loop a n x (by omega) hx
      refine ⟨r, r1, r2, r3, fun h1 _ => ?_, r5⟩
      by_cases hn1 : 1 ≤ n
      · exact r4 h1 hn1
      · have h0 : n = 0 := by omega
        subst h0
        by_cases hx0 : 0 < x
        · exact r3 hx0
        · have : x = 0 := by omega
          subst this
          have : s = 1 := by rw [← hs]; decide
          subst this; omega
theorem q_square_ex (a : Nat) : ∃ r : Nat, (∀ k, 33 ≤ k → q_square.f k (a : Int) = some (r : Int)) ∧ r < 4294967296 ∧ (1 ≤ a → 0 < r) ∧ (a = 0 → r = 0) := by
  obtain ⟨r, r1, r2, _, r4, r5⟩ := sq_loop a 32 0 (by decide) (by decide)
  refine ⟨r, fun k hk => ?_, r2, fun h => r4 h (by decide), fun h => r5 h rfl⟩
  exact le_mono (fun k => q_square.mono (a : Int) k) hk r1
theorem q_Hyp_ex (x y : Int) : ∃ r : Int, (∀ k, 33 ≤ k → q_Hyp.f k x y = some r) ∧ 0 ≤ r ∧ r < 4294967296 ∧ (r = 0 ↔ x = 0 ∧ y = 0) := by
  have hx := cl_bd x (-1073741824) 1073741824 (by decide)
  have hy := cl_bd y (-1073741824) 1073741824 (by decide)
  have hx0 : cl x (-1073741824) 1073741824 = 0 ↔ x = 0 := by unfold cl; split <;> (try split) <;> omega
  have hy0 : cl y (-1073741824) 1073741824 = 0 ↔ y = 0 := by unfold cl; split <;> (try split) <;> omega
  generalize hu : cl x (-1073741824) 1073741824 = u at *
  generalize hv : cl y (-1073741824) 1073741824 = v at *
  have sqb : ∀ u : Int, -1073741824 ≤ u ∧ u ≤ 1073741824 → 0 ≤ u * u ∧ u * u ≤ 1152921504606846976 ∧ (u * u = 0 ↔ u = 0) := fun u h => by
    have h1 : 0 ≤ (1073741824 - u) * (1073741824 + u) := Int.mul_nonneg (by omega) (by omega)
    have h2 : 0 ≤ u * u := by
      by_cases h : 0 ≤ u
      · exact Int.mul_nonneg h h
      · have := Int.mul_nonneg (show 0 ≤ -u by omega) (show 0 ≤ -u by omega)
        rw [Int.neg_mul_neg] at this; exact this
    simp only [Int.sub_mul, Int.mul_add] at h1
    exact ⟨h2, by omega, by rw [Int.mul_eq_zero]; omega⟩
  obtain ⟨u1, u2, u3⟩ := sqb u hx
  obtain ⟨v1, v2, v3⟩ := sqb v hy
  obtain ⟨r, r1, r2, r3, r4⟩ := q_square_ex (u * u + v * v).toNat
  refine ⟨r, fun k hk => ?_, by omega, by omega, ?_⟩
  · unfold q_Hyp.f
    simp only [q_Clamp_eq, Option.bind_some]
    rw [hu, hv, w64 (x := u * u) (by omega) (by omega), w64 (x := v * v) (by omega) (by omega), w64 (by omega) (by omega), u64id (by omega) (by omega)]
    have e : u * u + v * v = (((u * u + v * v).toNat : Nat) : Int) := by omega
    rw [e, r1 k hk]
    simp only [Option.bind_some, q_Hold_eq]
    rw [hd_of (by omega) (by omega)]
  · constructor
    · intro h
      have : ¬ 1 ≤ (u * u + v * v).toNat := fun h1 => by have := r3 h1; omega
      omega
    · rintro ⟨h1, h2⟩
      have h1 := hx0.2 h1
      have h2 := hy0.2 h2
      have := r4 (by omega)
      omega
noncomputable def hypv (x y : Int) : Int := Classical.choose (q_Hyp_ex x y)
theorem q_Hyp_eq {k : Nat} (hk : 33 ≤ k) (x y : Int) : q_Hyp.f k x y = some (hypv x y) := (Classical.choose_spec (q_Hyp_ex x y)).1 k hk
theorem hypv_bd (x y : Int) : 0 ≤ hypv x y ∧ hypv x y < 4294967296 ∧ (hypv x y = 0 ↔ x = 0 ∧ y = 0) := (Classical.choose_spec (q_Hyp_ex x y)).2
theorem next_ex (tape : List Int) (s a : Int) (hs : 0 ≤ s) (hl : (tape.length : Int) < 140737488355328) (ha : 0 < a) : ∃ v s', (∀ k, 1 ≤ k → mutoscopekeep_Tape_Next.f k tape s a = some (v, s')) ∧ 0 ≤ v ∧ v < a ∧ 0 ≤ s' := by
  by_cases h : s ≥ (tape.length : Int)
  · exact ⟨0, s, fun k _ => by unfold mutoscopekeep_Tape_Next.f; rw [if_pos h], by omega, ha, hs⟩
  · have w1 : ∀ x : Int, ∃ v : Int, (∀ k, 1 ≤ k → mutoscopebook_Within.f k x 0 1073741824 = some v) ∧ 0 ≤ v := fun x => by
      have hq : (wrap64 ((wrap64 ((1073741824 : Int) - 0)) + 1)) = 1073741825 := by decide +kernel
      by_cases h1 : 0 ≤ x ∧ x ≤ 1073741824
      · refine ⟨x, fun k hk => ?_, h1.1⟩
        obtain ⟨k, rfl⟩ : ∃ m, k = m + 1 := ⟨k - 1, by omega⟩
        unfold mutoscopebook_Within.f
        rw [if_pos (by omega), show decide (x ≤ 1073741824) = true from decide_eq_true h1.2]; simp [mutoscopebook_Within.j0]
      · have t1 : Int.tmod x 1073741825 < 1073741825 := Int.tmod_lt_of_pos x (by decide)
        have t2 : -1073741825 < Int.tmod x 1073741825 := by have := Int.tmod_lt_of_pos (-x) (show (0 : Int) < 1073741825 by decide); rw [Int.neg_tmod] at this; omega
        have hj : ∀ k, mutoscopebook_Within.f (k + 1) x 0 1073741824 = mutoscopebook_Within.j0 (k + 1) x 0 1073741824 false := fun k => by
          unfold mutoscopebook_Within.f
          split
          · rw [show decide (x ≤ 1073741824) = false from decide_eq_false (by omega)]
          · rfl
        by_cases h2 : Int.tmod x 1073741825 < 0
        · refine ⟨Int.tmod x 1073741825 + 1073741825, fun k hk => ?_, by omega⟩
          obtain ⟨k, rfl⟩ : ∃ m, k = m + 1 := ⟨k - 1, by omega⟩
          rw [hj]; simp only [mutoscopebook_Within.j0, hq]
          rw [if_neg (by decide), if_neg (by decide), if_pos h2]
          congr 1; unfold wrap64; omega
        · refine ⟨Int.tmod x 1073741825, fun k hk => ?_, by omega⟩
          obtain ⟨k, rfl⟩ : ∃ m, k = m + 1 := ⟨k - 1, by omega⟩
          rw [hj]; simp only [mutoscopebook_Within.j0, hq]
          rw [if_neg (by decide), if_neg (by decide), if_neg h2]
          congr 1; unfold wrap64; omega
    have hw : wrap64 (wrap64 (s + 1) - 1) = s := by unfold wrap64; omega
    obtain ⟨v, v1, v2⟩ := w1 (rd tape s)
    refine ⟨Int.tmod v a, s + 1, fun k hk => ?_, Int.tmod_nonneg _ v2, Int.tmod_lt_of_pos _ ha, by omega⟩
    unfold mutoscopekeep_Tape_Next.f
    rw [if_neg h, hw, if_pos hs, if_pos (by omega), v1 k hk]
    simp only [Option.bind_some]
    rw [if_neg (by omega), w64 (by omega) (by omega)]
theorem number_ex (tape : List Int) (s : Int) (hs : 0 ≤ s) (hl : (tape.length : Int) < 140737488355328) : ∃ v s', (∀ k, 1 ≤ k → mutoscopekeep_Tape_Number.f k tape s (-5) 20 = some (v, s')) ∧ -2097152 ≤ v ∧ v ≤ 2097152 ∧ 0 ≤ s' := by
  obtain ⟨v1, s1, e1, l1, u1, p1⟩ := next_ex tape s 26 hs hl (by decide)
  obtain ⟨v2, s2, e2, l2, u2, p2⟩ := next_ex tape s1 4 p1 hl (by decide)
  obtain ⟨v3, s3, e3, l3, u3, p3⟩ := next_ex tape s2 65536 p2 hl (by decide)
  have hq : (wrap64 ((wrap64 ((20 : Int) - (-5))) + 1)) = 26 := by decide +kernel
  by_cases h0 : v2 = 0
  · refine ⟨(-5 + v1) * 65536 + 32768, s2, fun k hk => ?_, by omega, by omega, p2⟩
    unfold mutoscopekeep_Tape_Number.f
    rw [hq, e1 k hk]; simp only [Option.bind_some]
    rw [e2 k hk]; simp only [Option.bind_some]
    rw [if_pos h0]; congr 2; unfold wrap64; omega
  · by_cases h1 : v2 = 1
    · refine ⟨(-5 + v1) * 65536 + v3, s3, fun k hk => ?_, by omega, by omega, p3⟩
      unfold mutoscopekeep_Tape_Number.f
      rw [hq, e1 k hk]; simp only [Option.bind_some]
      rw [e2 k hk]; simp only [Option.bind_some]
      rw [if_neg h0, if_pos h1, e3 k hk]; simp only [Option.bind_some]
      congr 2; unfold wrap64; omega
    · refine ⟨(-5 + v1) * 65536, s2, fun k hk => ?_, by omega, by omega, p2⟩
      unfold mutoscopekeep_Tape_Number.f
      rw [hq, e1 k hk]; simp only [Option.bind_some]
      rw [e2 k hk]; simp only [Option.bind_some]
      rw [if_neg h0, if_neg h1]; congr 2; unfold wrap64; omega
end Go.Proofs.Ythohhdcngdmbeaa.PW
end

section
set_option linter.unusedVariables false
namespace Go.Proofs.Ythohhdcngdmbeaa.PW
open Go.RowKit Go.Proofs.YthohhdcngdmbeaaW.PrintWords Go.Proofs.YthohhdcngdmbeaaW.PrintLast Go.Proofs.YthohhdcngdmbeaaW.PrintMore Go.Proofs.Ythohhdcngdmbeaa.MB
def okp (p : S34) : Prop := -2097152 ≤ p.f0 ∧ p.f0 ≤ 2097152 ∧ -2097152 ≤ p.f1 ∧ p.f1 ≤ 2097152
def gt (l : List S34) (i : Nat) : S34 := l.getD i z34
noncomputable def dist (a b : S34) : Int := hypv (b.f0 - a.f0) (b.f1 - a.f1)
theorem dist_bd (a b : S34) : 0 ≤ dist a b ∧ dist a b < 4294967296 := ⟨(hypv_bd _ _).1, (hypv_bd _ _).2.1⟩
theorem dist_zero (a b : S34) : dist a b = 0 ↔ a.f0 = b.f0 ∧ a.f1 = b.f1 := by
  have := (hypv_bd (b.f0 - a.f0) (b.f1 - a.f1)).2.2
  unfold dist; omega
theorem okp_z : okp z34 := by unfold okp z34; decide
theorem gt_ok {l : List S34} (h : ∀ p ∈ l, okp p) (i : Nat) : okp (gt l i) := by
  unfold gt; rw [List.getD_eq_getElem?_getD]
  by_cases hi : i < l.length
  · rw [List.getElem?_eq_getElem hi]; exact h _ (List.getElem_mem hi)
  · rw [List.getElem?_eq_none (by omega)]; exact okp_z
theorem place_eq {p : S34} (h : okp p) : arc_place.f p.f0 p.f1 = some (p.f0, p.f1) := by
  unfold okp at h
  unfold arc_place.f q_Place.f
  simp only [q_Clamp_eq, Option.bind_some]
  rw [cl_of (by omega) (by omega), cl_of (by omega) (by omega)]
def aa (l : List S34) (i : Nat) : S34 := gt l i
def bb (l : List S34) (i : Nat) : S34 := gt l ((i + 1) % l.length)
theorem next_eq (i L : Nat) (hi : i < L) (hL : L ≤ 60) : Int.tmod (wrap64 ((i : Int) + 1)) (L : Int) = (((i + 1) % L : Nat) : Int) := by
  rw [w64 (by omega) (by omega), Int.tmod_eq_emod_of_nonneg (by omega), Int.natCast_emod]; rfl
theorem side_eq {k : Nat} (hk : 33 ≤ k) (c : Bool) {l : List S34} (h : ∀ p ∈ l, okp p) (hL : l.length ≤ 60) {i : Nat} (hi : i < l.length) :
    arc_Side.f k c l (i : Int) = some ((aa l i).f0, (aa l i).f1, (bb l i).f0, (bb l i).f1, dist (aa l i) (bb l i)) := by
  have hm : (i + 1) % l.length < l.length := Nat.mod_lt _ (by omega)
  have ha := gt_ok h i
  have hb := gt_ok h ((i + 1) % l.length)
  unfold arc_Side.f
  rw [next_eq i _ hi hL]
  rw [if_pos (by omega), if_pos (by omega)]
  have e1 : rd_T34 l (i : Int) = gt l i := by unfold rd_T34 gt; rw [Int.toNat_natCast]
  have e2 : rd_T34 l (((i + 1) % l.length : Nat) : Int) = gt l ((i + 1) % l.length) := by unfold rd_T34 gt; rw [Int.toNat_natCast]
  rw [e1, e2, place_eq ha]
  simp only [Option.bind_some]
  rw [if_neg (by omega), if_pos (by omega), if_pos (by omega), place_eq hb]
  simp only [Option.bind_some]
  unfold okp at ha hb
  rw [w64 (by omega) (by omega), w64 (by omega) (by omega), q_Hyp_eq hk]
  rfl
def nsides (c : Bool) (l : List S34) : Nat := if c = true ∧ 2 ≤ l.length then l.length else l.length - 1
theorem nsides_le (c : Bool) (l : List S34) : nsides c l ≤ l.length := by unfold nsides; split <;> omega
theorem sides_eq (c : Bool) (l : List S34) (hL : l.length ≤ 60) : arc_Sides.f c l = some (nsides c l : Int) := by
  have h1 : mx 0 (wrap64 ((l.length : Int) - 1)) = ((l.length - 1 : Nat) : Int) := by
    rw [w64 (by omega) (by omega)]; unfold mx; split <;> omega
  unfold arc_Sides.f nsides
  rw [h1]
  cases c
  · rw [if_neg (by decide), if_neg (by simp)]
  · rw [if_pos rfl]
    by_cases h : 2 ≤ l.length
    · rw [if_pos (by omega), if_pos ⟨rfl, h⟩]
    · rw [if_neg (by omega), if_neg (fun h' => h h'.2)]
def sm (f : Nat → Int) : Nat → Int
  | 0 => 0
  | m + 1 => sm f m + f m
theorem sm_bd {f : Nat → Int} (h : ∀ i, 0 ≤ f i ∧ f i < 4294967296) : ∀ m : Nat, 0 ≤ sm f m ∧ sm f m ≤ (m : Int) * 4294967296
  | 0 => by simp [sm]
  | m + 1 => by
    have := sm_bd h m
    have := h m
    simp only [sm]; omega
theorem sm_le {f : Nat → Int} (h : ∀ i, 0 ≤ f i ∧ f i < 4294967296) {i n : Nat} (hi : i ≤ n) : sm f i ≤ sm f n := by
  induction hi with
  | refl => exact Int.le_refl _
  | step _ ih => have := h (‹Nat›); simp only [sm]; first | omega | (rename_i m _; have := h m; omega)
theorem sm_shift (f : Nat → Int) : ∀ m, sm f (m + 1) = f 0 + sm (fun i => f (i + 1)) m
  | 0 => by simp [sm]
  | m + 1 => by
    have := sm_shift f m
    simp only [sm] at this ⊢; omega
theorem sm_congr {f g : Nat → Int} : ∀ m, (∀ i, i < m → f i = g i) → sm f m = sm g m
  | 0, _ => rfl
  | m + 1, h => by simp only [sm]; rw [sm_congr m (fun i hi => h i (by omega)), h m (by omega)]
noncomputable def ll (l : List S34) (i : Nat) : Int := dist (aa l i) (bb l i)
theorem ll_bd (l : List S34) (i : Nat) : 0 ≤ ll l i ∧ ll l i < 4294967296 := dist_bd _ _
theorem add_eq {a b : Int} (ha : 0 ≤ a) (hb : 0 ≤ b) (ha' : a ≤ 549755813888) (hb' : b ≤ 549755813888) : q_Add.f a b = some (a + b) := by
  rw [q_Add_eq]; unfold add; rw [hd_of (a := a) (by omega) (by omega), hd_of (a := b) (by omega) (by omega), hd_of (by omega) (by omega)]
theorem length_loop (c : Bool) {l : List S34} (h : ∀ p ∈ l, okp p) (hL : l.length ≤ 60) {n : Nat} (hn : n ≤ l.length) : ∀ (m i k : Nat), i + m = n → 34 + m ≤ k →
    arc_Length.l0 k (sm (ll l) i) (n : Int) (i : Int) c l = some (sm (ll l) n)
  | 0, i, k, hi, hk => by
    obtain ⟨k, rfl⟩ : ∃ q, k = q + 1 := ⟨k - 1, by omega⟩
    unfold arc_Length.l0
    rw [if_neg (by omega), show i = n by omega]
  | m + 1, i, k, hi, hk => by
    obtain ⟨k, rfl⟩ : ∃ q, k = q + 1 := ⟨k - 1, by omega⟩
    unfold arc_Length.l0
    rw [if_pos (by omega), side_eq (by omega) c h hL (show i < l.length by omega)]
    simp only [Option.bind_some]
    have b1 := sm_bd (ll_bd l) i
    have b2 := ll_bd l i
    have b2' : 0 ≤ dist (aa l i) (bb l i) ∧ dist (aa l i) (bb l i) < 4294967296 := b2
    rw [add_eq (by omega) (by omega) (by omega) (by omega)]
    simp only [Option.bind_some]
    rw [w64 (by omega) (by omega)]
    exact length_loop c h hL hn m (i + 1) k (by omega) (by omega)
theorem length_eq (c : Bool) {l : List S34} (h : ∀ p ∈ l, okp p) (hL : l.length ≤ 60) {k : Nat} (hk : 100 ≤ k) : arc_Length.f k c l = some (sm (ll l) (nsides c l)) := by
  unfold arc_Length.f
  rw [sides_eq c l hL]
  have := nsides_le c l
  exact length_loop c h hL this (nsides c l) 0 k (by omega) (by omega)
noncomputable def oo (l : List S34) : Nat → List S34
  | 0 => []
  | i + 1 => if ll l i = 0 then oo l i else (if (oo l i).length = 0 then [aa l i] else oo l i) ++ [bb l i]
theorem oo_len (l : List S34) : ∀ i, (oo l i).length ≤ i + 1 ∧ ((oo l i).length = 0 ∨ 2 ≤ (oo l i).length)
  | 0 => by simp [oo]
  | i + 1 => by
    have := oo_len l i
    unfold oo; split
    · omega
    · split <;> simp <;> omega
theorem oo_ok {l : List S34} (h : ∀ p ∈ l, okp p) : ∀ i, ∀ p ∈ oo l i, okp p
  | 0 => by simp [oo]
  | i + 1 => by
    have := oo_ok h i
    unfold oo; split
    · exact this
    · split
      · intro p hp; simp at hp; rcases hp with rfl | rfl
        · exact gt_ok h _
        · exact gt_ok h _
      · intro p hp; simp at hp; rcases hp with hp | rfl
        · exact this p hp
        · exact gt_ok h _
theorem oo_nil (l : List S34) : ∀ i, (oo l i).length = 0 ↔ sm (ll l) i = 0
  | 0 => by simp [oo, sm]
  | i + 1 => by
    have h1 := oo_nil l i
    have h2 := sm_bd (ll_bd l) i
    have h3 := ll_bd l i
    unfold oo; simp only [sm]
    split
    · rename_i h0; rw [h0]; simpa using h1
    · rename_i h0
      constructor
      · intro h; simp at h
      · intro h; omega
theorem oo_snoc (l : List S34) (i : Nat) (h : ¬ ll l i = 0) : oo l (i + 1) = (if (oo l i).length = 0 then [aa l i] else oo l i) ++ [bb l i] := by simp only [oo]; rw [if_neg h]
theorem oo_same (l : List S34) (i : Nat) (h : ll l i = 0) : oo l (i + 1) = oo l i := by simp only [oo]; rw [if_pos h]
theorem on_a {k : Nat} {a b : S34} (ha : okp a) (hb : okp b) {d n : Int} (h : d ≤ 0) : arc_On.f k a.f0 a.f1 b.f0 b.f1 d n = some (a.f0, a.f1) := by
  unfold arc_On.f
  rw [place_eq ha]; simp only [Option.bind_some]
  rw [place_eq hb]; simp only [Option.bind_some]
  rw [if_pos h]
theorem on_b {k : Nat} {a b : S34} (ha : okp a) (hb : okp b) {d n : Int} (h : 0 < d) (h' : n ≤ d) : arc_On.f k a.f0 a.f1 b.f0 b.f1 d n = some (b.f0, b.f1) := by
  unfold arc_On.f
  rw [place_eq ha]; simp only [Option.bind_some]
  rw [place_eq hb]; simp only [Option.bind_some]
  rw [if_neg (by omega), if_pos h']
theorem w_succ {i : Nat} (h : i < 1000) : wrap64 ((i : Int) + 1) = ((i + 1 : Nat) : Int) := by rw [w64 (by omega) (by omega)]; omega
theorem part_loop (c : Bool) {l : List S34} (h : ∀ p ∈ l, okp p) (hL : l.length ≤ 60) {n : Nat} (hn : n ≤ l.length) : ∀ (m i k : Nat), i + m = n → 36 + 2 * m ≤ k →
    arc_Part.l0 k 0 (sm (ll l) n) (sm (ll l) i) (n : Int) (i : Int) c l false (oo l i) = some (false, oo l n)
  | 0, i, k, hi, hk => by
    obtain ⟨k, rfl⟩ : ∃ q, k = q + 1 := ⟨k - 1, by omega⟩
    unfold arc_Part.l0
    rw [if_neg (by omega), show i = n by omega]
  | m + 1, i, k, hi, hk => by
    obtain ⟨k, rfl⟩ : ∃ q, k = q + 2 := ⟨k - 2, by omega⟩
    have ha : okp (aa l i) := gt_ok h _
    have hb : okp (bb l i) := gt_ok h _
    have b1 := sm_bd (ll_bd l) i
    have b2 := ll_bd l i
    have b4 := sm_bd (ll_bd l) n
    have b5 : sm (ll l) (i + 1) ≤ sm (ll l) n := sm_le (ll_bd l) (by omega)
    have b6 : sm (ll l) (i + 1) = sm (ll l) i + ll l i := rfl
    have ih := part_loop c h hL hn m (i + 1) k (by omega) (by omega)
    have ho := (oo_len l i).1
    unfold arc_Part.l0
    rw [if_pos (by omega), side_eq (by omega) c h hL (show i < l.length by omega)]
    simp only [Option.bind_some]
    have e : dist (aa l i) (bb l i) = ll l i := rfl
    rw [e]
    have hadd : q_Add.f (sm (ll l) i) (ll l i) = some (sm (ll l) (i + 1)) := by rw [add_eq (by omega) (by omega) (by omega) (by omega)]; rfl
    by_cases h0 : ll l i = 0
    · rw [if_neg (by omega)]
      unfold arc_Part.j1
      rw [if_neg (by decide), hadd]
      simp only [Option.bind_some]
      rw [w_succ (by omega : i < 1000), ← oo_same l i h0]; exact ih
    · rw [if_pos (by omega), hadd]
      simp only [Option.bind_some]
      rw [if_pos (by omega), show decide (sm (ll l) i < sm (ll l) n) = true from decide_eq_true (by omega)]
      unfold arc_Part.j1
      rw [if_pos rfl]
      by_cases hq : (oo l i).length = 0
      · have hs := (oo_nil l i).1 hq
        have hnil : oo l i = [] := List.length_eq_zero_iff.1 hq
        rw [if_pos (by omega), on_a ha hb (by rw [hs]; decide +kernel)]
        simp only [Option.bind_some]
        rw [if_pos (by omega), w64 (x := sm (ll l) n - sm (ll l) i) (by omega) (by omega), on_b ha hb (by omega) (by omega)]
        simp only [Option.bind_some]
        rw [if_pos (by rw [hnil]; simp), hadd]
        simp only [Option.bind_some]
        rw [w_succ (by omega : i < 1000)]
        have e2 := oo_snoc l i h0
        rw [if_pos hq] at e2
        rw [hnil, List.nil_append, ← e2]; exact ih
      · rw [if_neg (by omega), w64 (x := sm (ll l) n - sm (ll l) i) (by omega) (by omega), on_b ha hb (by omega) (by omega)]
        simp only [Option.bind_some]
        rw [if_pos (by omega), hadd]
        simp only [Option.bind_some]
        rw [w_succ (by omega : i < 1000)]
        have e2 := oo_snoc l i h0
        rw [if_neg hq] at e2
        rw [← e2]; exact ih
theorem part_eq (c : Bool) {l : List S34} (h : ∀ p ∈ l, okp p) (hL : l.length ≤ 60) {k : Nat} (hk : 200 ≤ k) : arc_Part.f k c l 0 (sm (ll l) (nsides c l)) = some (false, oo l (nsides c l)) := by
  have hn := nsides_le c l
  have b4 := sm_bd (ll_bd l) (nsides c l)
  unfold arc_Part.f
  simp only [q_Hold_eq, Option.bind_some]
  rw [hd_of (a := 0) (by decide) (by decide), hd_of (by omega) (by omega)]
  by_cases h0 : 0 ≥ sm (ll l) (nsides c l)
  · rw [if_pos h0, List.length_eq_zero_iff.1 ((oo_nil l (nsides c l)).2 (by omega))]
  · rw [if_neg h0, sides_eq c l hL]
    exact part_loop c h hL hn (nsides c l) 0 k (by omega) (by omega)
noncomputable def plen : List S34 → Int
  | [] => 0
  | [_] => 0
  | a :: b :: t => dist a b + plen (b :: t)
theorem plen_snoc (a b : S34) : ∀ xs, plen (xs ++ [a] ++ [b]) = plen (xs ++ [a]) + dist a b
  | [] => by simp [plen]
  | [x] => by simp [plen]
  | x :: y :: t => by
    have := plen_snoc a b (y :: t)
    simp only [List.cons_append] at this ⊢
    simp only [plen]; omega
theorem oo_plen (c : Bool) (l : List S34) : ∀ i, i ≤ nsides c l → (oo l i).length ≠ 0 → ∃ xs q, oo l i = xs ++ [q] ∧ plen (oo l i) = sm (ll l) i ∧ (i < nsides c l → q = aa l i)
  | 0, _, h => absurd rfl h
  | i + 1, hi, h => by
    have hb : i + 1 < nsides c l → bb l i = aa l (i + 1) := fun h' => by
      have := nsides_le c l
      unfold aa bb; rw [Nat.mod_eq_of_lt (by omega)]
    by_cases h0 : ll l i = 0
    · rw [oo_same l i h0] at h ⊢
      obtain ⟨xs, q, e1, e2, e3⟩ := oo_plen c l i (by omega) h
      refine ⟨xs, q, e1, by simp only [sm]; rw [e2, h0, Int.add_zero], fun h' => ?_⟩
      rw [e3 (by omega), ← hb h']
      have := (dist_zero (aa l i) (bb l i)).1 h0
      generalize aa l i = u at *
      generalize bb l i = v at *
      cases u; cases v; simp at this; simp [this]
    · rw [oo_snoc l i h0]
      by_cases hq : (oo l i).length = 0
      · rw [if_pos hq]
        refine ⟨[aa l i], bb l i, rfl, ?_, hb⟩
        simp only [sm]; rw [(oo_nil l i).1 hq]
        simp [plen, ll]
      · rw [if_neg hq]
        obtain ⟨xs, q, e1, e2, e3⟩ := oo_plen c l i (by omega) hq
        refine ⟨oo l i, bb l i, rfl, ?_, hb⟩
        have e3 := e3 (by omega)
        subst e3
        rw [e1, plen_snoc, ← e1, e2]; rfl
theorem plen_sum : ∀ l : List S34, plen l = sm (fun j => dist (gt l j) (gt l (j + 1))) (l.length - 1)
  | [] => rfl
  | [_] => rfl
  | a :: b :: t => by
    have ih := plen_sum (b :: t)
    have e : (a :: b :: t).length - 1 = ((b :: t).length - 1) + 1 := by simp
    rw [e, sm_shift]
    simp only [plen]
    rw [ih]; rfl
theorem plen_open (l : List S34) : sm (ll l) (nsides false l) = plen l := by
  rw [plen_sum]
  have e : nsides false l = l.length - 1 := by unfold nsides; rw [if_neg (by simp)]
  rw [e]
  refine sm_congr _ (fun i hi => ?_)
  unfold ll aa bb; rw [Nat.mod_eq_of_lt (by omega)]
end Go.Proofs.Ythohhdcngdmbeaa.PW
end

section
set_option linter.unusedVariables false
namespace Go.Proofs.Ythohhdcngdmbeaa.Pure
open Go.RowKit Go.Proofs.Ythohhdcngdmbeaa.PW Go.Proofs.YthohhdcngdmbeaaW.PrintWords Go.Proofs.YthohhdcngdmbeaaW.PrintLast Go.Proofs.YthohhdcngdmbeaaW.PrintMore Go.Proofs.Ythohhdcngdmbeaa.MB
theorem known9 {k : Nat} (hk : 60 ≤ k) : mutoscopelaw9_known.f k = some true :=
  le_mono mutoscopelaw9_known.mono hk (by decide +kernel : mutoscopelaw9_known.f 60 = some true)
theorem poly_ex (tape : List Int) (hl : (tape.length : Int) < 140737488355328) : ∃ (c : Bool) (l : List S34) (s : Int), (Evt fun k => mutoscopelaw9_poly.f k tape 0 = some (c, l, s)) ∧ (∀ p ∈ l, okp p) ∧ l.length ≤ 59 := by
  have loop : ∀ (m : Nat) (c : Bool) (l : List S34) (s : Int), 0 ≤ s → (∀ p ∈ l, okp p) → l.length + 2 * m ≤ 59 →
      ∃ (c' : Bool) (l' : List S34) (s' : Int), (Evt fun k => mutoscopelaw9_poly.l0 k (m : Int) tape s c l = some (c', l', s')) ∧ (∀ p ∈ l', okp p) ∧ l'.length ≤ 59 := by
    intro m
    induction m with
    | zero =>
      intro c l s hs hp hn
      refine ⟨c, l, s, (Evt.all (p := fun _ => True) fun _ => trivial).succ fun k _ => ?_, hp, by omega⟩
      simp only [mutoscopelaw9_poly.l0]; rw [if_neg (by omega)]
    | succ m ih =>
      intro c l s hs hp hn
      obtain ⟨x, s1, e1, x1, x2, p1⟩ := number_ex tape s hs hl
      obtain ⟨y, s2, e2, y1, y2, p2⟩ := number_ex tape s1 p1 hl
      obtain ⟨v, s3, e3, v1, v2, p3⟩ := next_ex tape s2 6 p2 hl (by decide)
      have hq : okp (⟨x, y⟩ : S34) := ⟨x1, x2, y1, y2⟩
      have hp1 : ∀ p ∈ l ++ [(⟨x, y⟩ : S34)], okp p := fun p h => by
        rw [List.mem_append, List.mem_singleton] at h; rcases h with h | rfl
        · exact hp p h
        · exact hq
      have hp2 : ∀ p ∈ l ++ [(⟨x, y⟩ : S34)] ++ [(⟨x, y⟩ : S34)], okp p := fun p h => by
        rw [List.mem_append, List.mem_singleton] at h; rcases h with h | rfl
        · exact hp1 p h
        · exact hq
      have n1 : (l ++ [(⟨x, y⟩ : S34)]).length = l.length + 1 := by simp
      have n2 : (l ++ [(⟨x, y⟩ : S34)] ++ [(⟨x, y⟩ : S34)]).length = l.length + 2 := by simp
      have hw : wrap64 (((m + 1 : Nat) : Int) - 1) = (m : Int) := by rw [w64 (by omega) (by omega)]; omega
      by_cases h0 : v = 0
      · obtain ⟨c', l', s', h, r1, r2⟩ := ih c (l ++ [(⟨x, y⟩ : S34)] ++ [(⟨x, y⟩ : S34)]) s3 p3 hp2 (by omega)
        refine ⟨c', l', s', (h.and (Evt.of (p := fun k => 1 ≤ k) 1 fun k h => h)).succ fun k h => ?_, r1, r2⟩
        simp only [mutoscopelaw9_poly.l0]
        rw [if_pos (by omega), e1 k h.2]; simp only [Option.bind_some]
        rw [e2 k h.2]; simp only [Option.bind_some]
        rw [if_pos (by omega), e3 k h.2]; simp only [Option.bind_some]
        rw [if_pos h0, if_pos (by omega), hw]; exact h.1
      · obtain ⟨c', l', s', h, r1, r2⟩ := ih c (l ++ [(⟨x, y⟩ : S34)]) s3 p3 hp1 (by omega)
        refine ⟨c', l', s', (h.and (Evt.of (p := fun k => 1 ≤ k) 1 fun k h => h)).succ fun k h => ?_, r1, r2⟩
        simp only [mutoscopelaw9_poly.l0]
        rw [if_pos (by omega), e1 k h.2]; simp only [Option.bind_some]
        rw [e2 k h.2]; simp only [Option.bind_some]
        rw [if_pos (by omega), e3 k h.2]; simp only [Option.bind_some]
        rw [if_neg h0, hw]; exact h.1
  obtain ⟨v1, s1, e1, l1, u1, p1⟩ := next_ex tape 0 2 (by decide) hl (by decide)
  obtain ⟨v2, s2, e2, l2, u2, p2⟩ := next_ex tape s1 7 p1 hl (by decide)
  obtain ⟨c', l', s', h, r1, r2⟩ := loop v2.toNat (v1 == 0) [] s2 p2 (by simp) (by simp only [List.length_nil]; omega)
  refine ⟨c', l', s', (h.and (Evt.of (p := fun k => 1 ≤ k) 1 fun k h => h)).mono fun k h => ?_, r1, r2⟩
  unfold mutoscopelaw9_poly.f
  rw [e1 k h.2]; simp only [Option.bind_some]
  rw [e2 k h.2]; simp only [Option.bind_some]
  have e : ((v2.toNat : Nat) : Int) = v2 := by omega
  rw [← e]; exact h.1
theorem points_self (l : List S34) (hl : l.length ≤ 100) : ∀ (m i k : Nat), i + m = l.length → m + 1 ≤ k → mutoscoperef8_Points.l0 k l l (i : Int) = some true
  | 0, i, k, hi, hk => by
    obtain ⟨k, rfl⟩ : ∃ q, k = q + 1 := ⟨k - 1, by omega⟩
    simp only [mutoscoperef8_Points.l0]; rw [if_neg (by omega)]
  | m + 1, i, k, hi, hk => by
    obtain ⟨k, rfl⟩ : ∃ q, k = q + 1 := ⟨k - 1, by omega⟩
    simp only [mutoscoperef8_Points.l0]
    rw [if_pos (by omega), if_pos (by omega), if_pos (by omega), if_neg (by simp), w64 (by omega) (by omega)]
    exact points_self l hl m (i + 1) k (by omega) (by omega)
theorem points_eq (l : List S34) (hl : l.length ≤ 100) {k : Nat} (hk : 102 ≤ k) : mutoscoperef8_Points.f k l l = some true := by
  unfold mutoscoperef8_Points.f
  rw [if_pos rfl]; exact points_self l hl l.length 0 k (by omega) (by omega)
theorem want_loop (c : Bool) {l : List S34} (h : ∀ p ∈ l, okp p) (hL : l.length ≤ 59) : ∀ (m i k : Nat), i + m = nsides c l → 300 + 2 * m ≤ k →
    mutoscopelaw9_ArcWhole.l0 k (sm (ll l) (nsides c l)) (oo l i) (i : Int) c l false (oo l (nsides c l)) = some true
  | 0, i, k, hi, hk => by
    obtain ⟨k, rfl⟩ : ∃ q, k = q + 1 := ⟨k - 1, by omega⟩
    have hn := nsides_le c l
    have ho := (oo_len l (nsides c l)).1
    simp only [mutoscopelaw9_ArcWhole.l0]
    rw [sides_eq c l (by omega)]; simp only [Option.bind_some]
    rw [if_neg (by omega), show i = nsides c l by omega, points_eq _ (by omega) (by omega)]
    simp only [Option.bind_some, if_true]
    rw [length_eq false (oo_ok h _) (by omega) (by omega)]
    simp only [Option.bind_some]
    have hz : sm (ll (oo l (nsides c l))) (nsides false (oo l (nsides c l))) = sm (ll l) (nsides c l) := by
      rw [plen_open]
      by_cases h0 : (oo l (nsides c l)).length = 0
      · rw [(oo_nil l _).1 h0, List.length_eq_zero_iff.1 h0]; rfl
      · obtain ⟨_, _, _, e, _⟩ := oo_plen c l (nsides c l) (Nat.le_refl _) h0
        exact e
    rw [hz, if_pos rfl, known9 (by omega)]
    rfl
  | m + 1, i, k, hi, hk => by
    obtain ⟨k, rfl⟩ : ∃ q, k = q + 2 := ⟨k - 2, by omega⟩
    have hn := nsides_le c l
    have ho := (oo_len l i).1
    have ih := want_loop c h hL m (i + 1) k (by omega) (by omega)
    have ih1 := want_loop c h hL m (i + 1) (k + 1) (by omega) (by omega)
    have hm : (i + 1) % l.length < l.length := Nat.mod_lt _ (by omega)
    have e1 : rd_T34 l (i : Int) = aa l i := by unfold rd_T34 aa gt; rw [Int.toNat_natCast]
    have e2 : rd_T34 l (((i + 1) % l.length : Nat) : Int) = bb l i := by unfold rd_T34 bb gt; rw [Int.toNat_natCast]
    unfold mutoscopelaw9_ArcWhole.l0
    rw [sides_eq c l (by omega)]; simp only [Option.bind_some]
    rw [if_pos (by omega), if_pos (by omega), if_pos (by omega), if_neg (by omega), next_eq i _ (by omega) (by omega), if_pos (by omega), if_pos (by omega), e1, e2]
    by_cases h0 : ll l i = 0
    · have hd := (dist_zero (aa l i) (bb l i)).1 h0
      rw [if_pos (by rw [hd.1, hd.2]; simp), w_succ (by omega : i < 1000)]
      rw [← oo_same l i h0]; exact ih1
    · have hd : ¬ (((aa l i).f0 == (bb l i).f0 && (aa l i).f1 == (bb l i).f1) = true) := fun hh => h0 ((dist_zero _ _).2 (by simpa using hh))
      rw [if_neg hd]
      have e3 := oo_snoc l i h0
      by_cases hq : (oo l i).length = 0
      · have hnil : oo l i = [] := List.length_eq_zero_iff.1 hq
        rw [if_pos (by omega), if_pos (by omega)]
        unfold mutoscopelaw9_ArcWhole.j2
        rw [if_pos (by rw [hnil]; simp), w_succ (by omega : i < 1000)]
        rw [if_pos hq] at e3
        rw [hnil, List.nil_append, ← e3]; exact ih
      · rw [if_neg (by omega)]
        unfold mutoscopelaw9_ArcWhole.j2
        rw [if_pos (by omega), w_succ (by omega : i < 1000)]
        rw [if_neg hq] at e3
        rw [← e3]; exact ih
theorem ArcWhole : mutoscopelaw9_ArcWhole.Pure := by
  intro tape h1 _ _
  have hl : (tape.length : Int) < 140737488355328 := by unfold maxLen at h1; omega
  obtain ⟨c, l, s, ⟨n, hp⟩, hk, hL⟩ := poly_ex tape hl
  have hn := nsides_le c l
  refine ⟨n + 1000, ?_⟩
  unfold mutoscopelaw9_ArcWhole.f
  rw [hp (n + 1000) (by omega)]; simp only [Option.bind_some]
  rw [length_eq c hk (by omega) (by omega)]; simp only [Option.bind_some]
  rw [part_eq c hk (by omega) (by omega)]; simp only [Option.bind_some]
  have ho := oo_len l (nsides c l)
  have hz := oo_nil l (nsides c l)
  by_cases h0 : sm (ll l) (nsides c l) = 0
  · have := hz.2 h0
    rw [if_pos h0, if_pos (by omega), known9 (by omega)]; rfl
  · have hz2 : 2 ≤ (oo l (nsides c l)).length := by
      rcases ho.2 with h | h
      · exact absurd (hz.1 h) h0
      · exact h
    rw [if_neg h0, if_neg (by simp), decide_eq_false (by omega : ¬ ((oo l (nsides c l)).length : Int) < 2)]
    have hj : ∀ q t x, mutoscopelaw9_ArcWhole.j0 (q + 1) t false c l false x = mutoscopelaw9_ArcWhole.l0 q t [] 0 c l false x := fun q t x => by simp only [mutoscopelaw9_ArcWhole.j0]; rw [if_neg (by simp)]
    rw [show n + 1000 = (n + 999) + 1 from rfl, hj]
    exact want_loop c hk hL (nsides c l) 0 _ (by omega) (by omega)
end Go.Proofs.Ythohhdcngdmbeaa.Pure
end

section
namespace Go.Proofs.YthohhdcngdmbeaaW.PrintWords
open Go.ChangeShapes Go.WideShapes
theorem sized_ints {H : Type} {enc : TypeId × Value → H} {P : Program} {W : World} {base : Nat} {spare : Nat → Bool} {held : Bool} {t e : TypeId} {k : IntKind} {a : Option Addr} {len cap : Nat} {d : DataW H} {ps : List MemPlace} {ts : List TypeId} {ds : List (DataW H)} {j : Nat}
    (hsz : (DataW.weightsEach P ts ds).all (· ≤ reachBytes) = true) (ht : ts[j]? = some t) (hd : ds[j]? = some d) (hu : P.underlying t = some (.slice e)) (he : P.underlying e = some (.int k)) (hc : P.cellsOf e = 1) {B : Nat} (hB : P.bytesOf e = B)
    (h : DataW.Trod enc P W base spare held t (.slice a len cap) d ps) : len * B ≤ 140737488351232 := by
  obtain ⟨fuel, hf⟩ := h
  rcases open_ints hu he hc hf with ⟨hcs, _⟩ | ⟨x, l, c, zs, hcs, _, hl, _, hz, hx, _, _⟩
  · simp [Value.cells] at hcs
    obtain ⟨rfl, rfl, rfl⟩ := hcs
    simp
  · simp [Value.cells] at hcs
    obtain ⟨rfl, rfl, rfl⟩ := hcs
    obtain ⟨hx, _⟩ := Prod.mk.inj hx
    subst hx
    have z := sized_slice hsz ht hd hu
    rw [hB] at z
    have hl2 : len ≤ zs.length := by
      rw [hz]
      split
      · exact hl
      · exact Nat.le_refl _
    have h1 : (lits (H := H) k (zs.take len)).length + (lits (H := H) k (zs.drop len)).length = zs.length := by
      simp [lits]
      omega
    rw [h1] at z
    exact Nat.le_trans (Nat.mul_le_mul_right _ hl2) z
end Go.Proofs.YthohhdcngdmbeaaW.PrintWords
end
