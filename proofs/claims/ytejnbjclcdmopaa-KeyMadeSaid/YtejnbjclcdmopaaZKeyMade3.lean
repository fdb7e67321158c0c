/- Lines of 7 texts of this seat, merged by wip/shake.py (a program of this session): what the statement's proof does not use is left out. -/
import Derived.Test.YtejnbjclcdmopaaZKeyMade2

section
namespace Go.Proofs.Ytejnbjclcdmopaa.PM
open Go.RowKit Go.Proofs.YtejnbjclcdmopaaW.PrintWords Go.Proofs.YtejnbjclcdmopaaW.PrintLast Go.Proofs.YtejnbjclcdmopaaW.PrintMore
attribute [local go_sem] max2_int min2_int max_two min_two max_three min_three max_four min_four
attribute [local go_sem] Go.Proofs.Ytejnbjclcdmopaa.MS.isSome_setCell
set_option linter.unusedVariables false
set_option linter.unusedSimpArgs false
def mutoscopekeep_Tape_ease.f (k : Nat) (s0_0 : List Int) (s0_1 : Int) : Option (Int × Int × Int × Int × Int) := (mutoscopekeep_Tape_Next.f k s0_0 s0_1 65537).bind fun bt178 => ((mutoscopekeep_Tape_Number.f k s0_0 bt178.2 (-1) 1).bind fun bt180 => ((mutoscopekeep_Tape_Next.f k s0_0 bt180.2 65537).bind fun bt182 => ((mutoscopekeep_Tape_Number.f k s0_0 bt182.2 0 2).bind fun bt184 => (some (bt178.1, bt180.1, bt182.1, bt184.1, bt184.2)))))
set_option maxHeartbeats 8000000 in
set_option maxRecDepth 100000 in
theorem mutoscopekeep_Tape_ease.calls (k : Nat) (g : Nat) (s0_0 : List Int) (s0_1 : Int) (r1 : Int) (r2 : Int) (r3 : Int) (r4 : Int) (r5 : Int) (w0 w : World) (hI : IsS41 w0 w g s0_0 s0_1) (hB : Below w0.heap.size w0 w) (h : mutoscopekeep_Tape_ease.f k s0_0 s0_1 = some (r1, r2, r3, r4, r5)) :
  Calls Try.prog 48 #[.pointer (some ⟨g, 0, none⟩)] w fun e w' => e = .returned (.agg #[.int .i64 r1, .int .i64 r2, .int .i64 r3, .int .i64 r4]) ∧ IsS41 w0 w' g s0_0 r5 ∧ Below w0.heap.size w0 w' ∧ KeepBut w w' g none := by
 have hu23 := Try.underlying23
 have HI0 := Aside0.mk hI
 have HK := Aside0.mk (KeepBut.refl w g none)
 have HL := Aside0.mk hB.size
 clear hI
 have HW0 := Aside0.mk hB.size
 have HB := Aside0.mk hB
 clear hB
 have H : ((mutoscopekeep_Tape_Next.f k s0_0 s0_1 65537).bind fun bt178 => ((mutoscopekeep_Tape_Number.f k s0_0 bt178.2 (-1) 1).bind fun bt180 => ((mutoscopekeep_Tape_Next.f k s0_0 bt180.2 65537).bind fun bt182 => ((mutoscopekeep_Tape_Number.f k s0_0 bt182.2 0 2).bind fun bt184 => (some (bt178.1, bt180.1, bt182.1, bt184.1, bt184.2)))))) = some (r1, r2, r3, r4, r5) := h
 clear h
 replace H := Option.bind_eq_some_iff.mp H
 obtain ⟨⟨t178, t179⟩, A20, H⟩ := H
 replace H : ((mutoscopekeep_Tape_Number.f k s0_0 t179 (-1) 1).bind fun bt180 => ((mutoscopekeep_Tape_Next.f k s0_0 bt180.2 65537).bind fun bt182 => ((mutoscopekeep_Tape_Number.f k s0_0 bt182.2 0 2).bind fun bt184 => (some (t178, bt180.1, bt182.1, bt184.1, bt184.2))))) = some (r1, r2, r3, r4, r5) := H
 have A2 := Aside0.mk A20
 clear A20
 replace H := Option.bind_eq_some_iff.mp H
 obtain ⟨⟨t180, t181⟩, A30, H⟩ := H
 replace H : ((mutoscopekeep_Tape_Next.f k s0_0 t181 65537).bind fun bt182 => ((mutoscopekeep_Tape_Number.f k s0_0 bt182.2 0 2).bind fun bt184 => (some (t178, t180, bt182.1, bt184.1, bt184.2)))) = some (r1, r2, r3, r4, r5) := H
 have A3 := Aside0.mk A30
 clear A30
 replace H := Option.bind_eq_some_iff.mp H
 obtain ⟨⟨t182, t183⟩, A40, H⟩ := H
 replace H : ((mutoscopekeep_Tape_Number.f k s0_0 t183 0 2).bind fun bt184 => (some (t178, t180, t182, bt184.1, bt184.2))) = some (r1, r2, r3, r4, r5) := H
 have A4 := Aside0.mk A40
 clear A40
 replace H := Option.bind_eq_some_iff.mp H
 obtain ⟨⟨t184, t185⟩, A50, H⟩ := H
 replace H : (some (t178, t180, t182, t184, t185)) = some (r1, r2, r3, r4, r5) := H
 have A5 := Aside0.mk A50
 clear A50
 simp only [Option.some.injEq, Prod.mk.injEq] at H
 obtain ⟨rfl, rfl, rfl, rfl, rfl⟩ := H
 go_enter Try.func48, Try.ntmps48
 go_wp2_with (first | ((with_reducible refine gate_dst (N := 2) rfl ?_); refine box_event ?hg (N := 2) ?hd (cs := #[.int .i64 0, .int .i64 0, .int .i64 0, .int .i64 0]) (t := 23) ?hr ?_; (case hd => rfl); (case hg => rfl); (case hr => first | (go_simp; done) | (go_simp; rfl)); intro gb177 hg w6 hbox hb; have n0_ := Aside0.mk (IsS41.below (by repeat (first | (with_reducible first | exact HI0.out | apply IsS41.alloc | apply IsS41.drewN | apply IsS41.drew | apply IsS41.set_1) | exact HI0.out)) hb); have n1_ := Aside0.mk (KeepBut.trans (by repeat (first | (with_reducible first | exact HK.out | apply KeepBut.set_ | apply keep_drewN | apply keep_drew | apply keep_alloc) | exact HK.out)) (KeepBut.of_below hb g none) (.inl rfl)); have n2_ := Aside0.mk (below_step (by repeat (first | (with_reducible first | exact HB.out | apply below_alloc | apply pw_below_drewN | apply below_drew1 | refine below_set ?_ (IsS41.ge HI0.out)) | exact HB.out)) hb); have n3_ := Aside0.mk (hbox); have n4_ := Aside0.mk ((by rw [hg]; exact (keep_size (w := w) (g := g) (row := none) (by repeat (first | (with_reducible first | exact HK.out | apply KeepBut.set_ | apply keep_drewN | apply keep_drew | apply keep_alloc) | exact HK.out))) : w.heap.size ≤ gb177)); have n5_ := Aside0.mk ((Nat.le_trans HW0.out (by rw [hg]; exact (keep_size (w := w) (g := g) (row := none) (by repeat (first | (with_reducible first | exact HK.out | apply KeepBut.set_ | apply keep_drewN | apply keep_drew | apply keep_alloc) | exact HK.out))) : w.heap.size ≤ gb177) : w0.heap.size ≤ gb177)); have n6_ := Aside0.mk ((by rw [hg]; exact Nat.ne_of_lt (IsS41.lt (show IsS41 w0 _ g s0_0 s0_1 from by repeat (first | (with_reducible first | exact HI0.out | apply IsS41.alloc | apply IsS41.drewN | apply IsS41.drew | apply IsS41.set_1) | exact HI0.out))) : g ≠ gb177)); have n7_ := Aside0.mk ((by rw [hg]; exact Nat.ne_of_gt (IsS41.lt (show IsS41 w0 _ g s0_0 s0_1 from by repeat (first | (with_reducible first | exact HI0.out | apply IsS41.alloc | apply IsS41.drewN | apply IsS41.drew | apply IsS41.set_1) | exact HI0.out))) : gb177 ≠ g)); clear HI0; clear HK; clear HB; have HI0 := n0_; have HK := n1_; have HB := n2_; have BK177 := n3_; have GW177 := n4_; have GE177 := n5_; have NB0_177 := n6_; have NB177_0 := n7_; clear n0_ n1_ n2_ n3_ n4_ n5_ n6_ n7_; clear hb hbox hg) | ((with_reducible refine gate_callee (f := 33) rfl ?_); refine goesL_ (some 4) rfl rfl Try.func33 (by kernel_rfl) rfl #[.pointer (some ⟨g, 0, none⟩), .int .i64 65537] rfl (by (try simp only [List.map_toArray, List.map_cons, List.map_nil]); first | done | rfl | (simp only [List.length_drop, List.length_take]; rfl)) ?_; (with_reducible refine (mutoscopekeep_Tape_Next.calls k g s0_0 s0_1 65537 t178 t179 w0 _ ?side1 ?side2 A2.out).mono ?_); (case side1 => repeat (first | (with_reducible first | exact HI0.out | apply IsS41.alloc | apply IsS41.drewN | apply IsS41.drew | apply IsS41.set_1 | refine IsS41.far ?_ NB0_177.out _) | exact HI0.out)); (case side2 => repeat (first | (with_reducible first | exact HB.out | apply below_alloc | apply pw_below_drewN | apply below_drew1 | refine below_set ?_ (IsS41.ge HI0.out) | refine below_set ?_ GE177.out) | exact HB.out)); rintro e w7 ⟨rfl, hi, hb, hk⟩; refine ⟨_, rfl, ?_⟩; have n0_ := Aside0.mk (KeepBut.blk hk (g' := gb177) (o := .cells #[.int .i64 0, .int .i64 0, .int .i64 0, .int .i64 0] 23 (0, 0)) (by (with_reducible repeat (first | refine blk_drewN ?_ _ | refine blk_drew ?_ | refine blk_alloc ?_ _)); exact BK177.out) NB177_0.out (by simp)); have n1_ := Aside0.mk (KeepBut.trans (by repeat (first | (with_reducible first | exact HK.out | apply KeepBut.set_ | apply keep_drewN | apply keep_drew | apply keep_alloc | refine keep_far ?_ GW177.out _) | exact HK.out)) hk (.inl rfl)); have n2_ := Aside0.mk (hb); have n3_ := Aside0.mk (hi); clear BK177; clear HK; clear HB; clear HI0; have BK177 := n0_; have HK := n1_; have HB := n2_; have HI0 := n3_; clear n0_ n1_ n2_ n3_; (try clear hb); (try clear hb2); (try clear hk); (try clear hi)) | ((with_reducible refine gate_callee (f := 34) rfl ?_); refine goesL_ (some 6) rfl rfl Try.func34 (by kernel_rfl) rfl #[.pointer (some ⟨g, 0, none⟩), .int .i64 (-1), .int .i64 1] rfl (by (try simp only [List.map_toArray, List.map_cons, List.map_nil]); first | done | rfl | (simp only [List.length_drop, List.length_take]; rfl)) ?_; (with_reducible refine (mutoscopekeep_Tape_Number.calls k g s0_0 t179 (-1) 1 t180 t181 w0 _ ?side1 ?side2 A3.out).mono ?_); (case side1 => repeat (first | (with_reducible first | exact HI0.out | apply IsS41.alloc | apply IsS41.drewN | apply IsS41.drew | apply IsS41.set_1 | refine IsS41.far ?_ NB0_177.out _) | exact HI0.out)); (case side2 => repeat (first | (with_reducible first | exact HB.out | apply below_alloc | apply pw_below_drewN | apply below_drew1 | refine below_set ?_ (IsS41.ge HI0.out) | refine below_set ?_ GE177.out) | exact HB.out)); rintro e w8 ⟨rfl, hi, hb, hk⟩; refine ⟨_, rfl, ?_⟩; have n0_ := Aside0.mk (KeepBut.blk hk (g' := gb177) (o := .cells #[.int .i64 0, .int .i64 0, .int .i64 0, .int .i64 0] 23 (0, 0)) (by (with_reducible repeat (first | refine blk_drewN ?_ _ | refine blk_drew ?_ | refine blk_alloc ?_ _)); exact BK177.out) NB177_0.out (by simp)); have n1_ := Aside0.mk (KeepBut.trans (by repeat (first | (with_reducible first | exact HK.out | apply KeepBut.set_ | apply keep_drewN | apply keep_drew | apply keep_alloc | refine keep_far ?_ GW177.out _) | exact HK.out)) hk (.inl rfl)); have n2_ := Aside0.mk (hb); have n3_ := Aside0.mk (hi); clear BK177; clear HK; clear HB; clear HI0; have BK177 := n0_; have HK := n1_; have HB := n2_; have HI0 := n3_; clear n0_ n1_ n2_ n3_; (try clear hb); (try clear hb2); (try clear hk); (try clear hi)) | ((with_reducible refine gate_callee (f := 33) rfl ?_); refine goesL_ (some 8) rfl rfl Try.func33 (by kernel_rfl) rfl #[.pointer (some ⟨g, 0, none⟩), .int .i64 65537] rfl (by (try simp only [List.map_toArray, List.map_cons, List.map_nil]); first | done | rfl | (simp only [List.length_drop, List.length_take]; rfl)) ?_; (with_reducible refine (mutoscopekeep_Tape_Next.calls k g s0_0 t181 65537 t182 t183 w0 _ ?side1 ?side2 A4.out).mono ?_); (case side1 => repeat (first | (with_reducible first | exact HI0.out | apply IsS41.alloc | apply IsS41.drewN | apply IsS41.drew | apply IsS41.set_1 | refine IsS41.far ?_ NB0_177.out _) | exact HI0.out)); (case side2 => repeat (first | (with_reducible first | exact HB.out | apply below_alloc | apply pw_below_drewN | apply below_drew1 | refine below_set ?_ (IsS41.ge HI0.out) | refine below_set ?_ GE177.out) | exact HB.out)); rintro e w9 ⟨rfl, hi, hb, hk⟩; refine ⟨_, rfl, ?_⟩; have n0_ := Aside0.mk (KeepBut.blk hk (g' := gb177) (o := .cells #[.int .i64 0, .int .i64 0, .int .i64 0, .int .i64 0] 23 (0, 0)) (by (with_reducible repeat (first | refine blk_drewN ?_ _ | refine blk_drew ?_ | refine blk_alloc ?_ _)); exact BK177.out) NB177_0.out (by simp)); have n1_ := Aside0.mk (KeepBut.trans (by repeat (first | (with_reducible first | exact HK.out | apply KeepBut.set_ | apply keep_drewN | apply keep_drew | apply keep_alloc | refine keep_far ?_ GW177.out _) | exact HK.out)) hk (.inl rfl)); have n2_ := Aside0.mk (hb); have n3_ := Aside0.mk (hi); clear BK177; clear HK; clear HB; clear HI0; have BK177 := n0_; have HK := n1_; have HB := n2_; have HI0 := n3_; clear n0_ n1_ n2_ n3_; (try clear hb); (try clear hb2); (try clear hk); (try clear hi)) | ((with_reducible refine gate_callee (f := 34) rfl ?_); refine goesL_ (some 10) rfl rfl Try.func34 (by kernel_rfl) rfl #[.pointer (some ⟨g, 0, none⟩), .int .i64 0, .int .i64 2] rfl (by (try simp only [List.map_toArray, List.map_cons, List.map_nil]); first | done | rfl | (simp only [List.length_drop, List.length_take]; rfl)) ?_; (with_reducible refine (mutoscopekeep_Tape_Number.calls k g s0_0 t183 0 2 t184 t185 w0 _ ?side1 ?side2 A5.out).mono ?_); (case side1 => repeat (first | (with_reducible first | exact HI0.out | apply IsS41.alloc | apply IsS41.drewN | apply IsS41.drew | apply IsS41.set_1 | refine IsS41.far ?_ NB0_177.out _) | exact HI0.out)); (case side2 => repeat (first | (with_reducible first | exact HB.out | apply below_alloc | apply pw_below_drewN | apply below_drew1 | refine below_set ?_ (IsS41.ge HI0.out) | refine below_set ?_ GE177.out) | exact HB.out)); rintro e w10 ⟨rfl, hi, hb, hk⟩; refine ⟨_, rfl, ?_⟩; have n0_ := Aside0.mk (KeepBut.blk hk (g' := gb177) (o := .cells #[.int .i64 0, .int .i64 0, .int .i64 0, .int .i64 0] 23 (0, 0)) (by (with_reducible repeat (first | refine blk_drewN ?_ _ | refine blk_drew ?_ | refine blk_alloc ?_ _)); exact BK177.out) NB177_0.out (by simp)); have n1_ := Aside0.mk (KeepBut.trans (by repeat (first | (with_reducible first | exact HK.out | apply KeepBut.set_ | apply keep_drewN | apply keep_drew | apply keep_alloc | refine keep_far ?_ GW177.out _) | exact HK.out)) hk (.inl rfl)); have n2_ := Aside0.mk (hb); have n3_ := Aside0.mk (hi); clear BK177; clear HK; clear HB; clear HI0; have BK177 := n0_; have HK := n1_; have HB := n2_; have HI0 := n3_; clear n0_ n1_ n2_ n3_; (try clear hb); (try clear hb2); (try clear hk); (try clear hi); have hnb11 := NB177_0.out; have hnc11 := NB0_177.out; have hcz12_0 : w10.cell? ⟨gb177, 0, none⟩ = some (.int .i64 0) := (blk_cell BK177.out 0).trans rfl; have hcz12_1 : w10.cell? ⟨gb177, 1, none⟩ = some (.int .i64 0) := (blk_cell BK177.out 1).trans rfl; have hcz12_2 : w10.cell? ⟨gb177, 2, none⟩ = some (.int .i64 0) := (blk_cell BK177.out 2).trans rfl; have hcz12_3 : w10.cell? ⟨gb177, 3, none⟩ = some (.int .i64 0) := (blk_cell BK177.out 3).trans rfl; have hfz12_0 := blk_frozen BK177.out 0; have hfz12_1 := blk_frozen BK177.out 1; have hfz12_2 := blk_frozen BK177.out 2; have hfz12_3 := blk_frozen BK177.out 3))
 refine bodyPost_ret (results_cell_row rfl _ _ gb177 23 #[.int .i64 t178, .int .i64 t180, .int .i64 t182, .int .i64 t184] (0, 0) _ rfl (by (with_reducible repeat (first | refine blk_drewN ?_ _ | refine blk_drew ?_ | refine blk_alloc ?_ _)); refine blk_put (cs := #[.int .i64 t178, .int .i64 t180, .int .i64 t182, .int .i64 0]) ?_ 3 _ rfl; (with_reducible repeat (first | refine blk_drewN ?_ _ | refine blk_drew ?_ | refine blk_alloc ?_ _)); refine blk_put (cs := #[.int .i64 t178, .int .i64 t180, .int .i64 0, .int .i64 0]) ?_ 2 _ rfl; (with_reducible repeat (first | refine blk_drewN ?_ _ | refine blk_drew ?_ | refine blk_alloc ?_ _)); refine blk_put (cs := #[.int .i64 t178, .int .i64 0, .int .i64 0, .int .i64 0]) ?_ 1 _ rfl; (with_reducible repeat (first | refine blk_drewN ?_ _ | refine blk_drew ?_ | refine blk_alloc ?_ _)); refine blk_put (cs := #[.int .i64 0, .int .i64 0, .int .i64 0, .int .i64 0]) ?_ 0 _ rfl; (with_reducible repeat (first | refine blk_drewN ?_ _ | refine blk_drew ?_ | refine blk_alloc ?_ _)); exact BK177.out) Try.underlying23 rfl (by kernel_rfl)) rfl ?_
 exact ⟨by first | rfl | (simp [errW_none, errW_some] <;> rfl) | (simp [*, errW_none, errW_some] <;> rfl), by repeat (first | (with_reducible first | exact HI0.out | apply IsS41.alloc | apply IsS41.drewN | apply IsS41.drew | apply IsS41.set_1 | refine IsS41.far ?_ NB0_177.out _) | exact HI0.out), by repeat (first | (with_reducible first | exact HB.out | apply below_alloc | apply pw_below_drewN | apply below_drew1 | refine below_set ?_ (IsS41.ge HI0.out) | refine below_set ?_ GE177.out) | exact HB.out), by repeat (first | (with_reducible first | exact HK.out | apply KeepBut.set_ | apply keep_drewN | apply keep_drew | apply keep_alloc | refine keep_far ?_ GW177.out _) | exact HK.out)⟩
def mutoscopekeep_Tape_how.f (k : Nat) (s0_0 : List Int) (s0_1 : Int) : Option (Int × Int × Int × Int × Int × Int) := (mutoscopekeep_Tape_Next.f k s0_0 s0_1 4).bind fun bt187 => (if bt187.1 = 0 then (some (0, 0, 0, 0, 0, bt187.2)) else (if bt187.1 = 1 then ((mutoscopekeep_Tape_ease.f k s0_0 bt187.2).bind fun bt189 => (some (2, bt189.1, bt189.2.1, bt189.2.2.1, bt189.2.2.2.1, bt189.2.2.2.2))) else (some (1, 0, 0, 0, 0, bt187.2))))
set_option maxHeartbeats 8000000 in
set_option maxRecDepth 100000 in
theorem mutoscopekeep_Tape_how.calls (k : Nat) (g : Nat) (s0_0 : List Int) (s0_1 : Int) (r1 : Int) (r2 : Int) (r3 : Int) (r4 : Int) (r5 : Int) (r6 : Int) (w0 w : World) (hI : IsS41 w0 w g s0_0 s0_1) (hB : Below w0.heap.size w0 w) (h : mutoscopekeep_Tape_how.f k s0_0 s0_1 = some (r1, r2, r3, r4, r5, r6)) :
  Calls Try.prog 35 #[.pointer (some ⟨g, 0, none⟩)] w fun e w' => e = .returned (.tuple #[.int .i64 r1, .agg #[.int .i64 r2, .int .i64 r3, .int .i64 r4, .int .i64 r5]]) ∧ IsS41 w0 w' g s0_0 r6 ∧ Below w0.heap.size w0 w' ∧ KeepBut w w' g none := by
 have hu23 := Try.underlying23
 have HI0 := Aside0.mk hI
 have HK := Aside0.mk (KeepBut.refl w g none)
 have HL := Aside0.mk hB.size
 clear hI
 have HW0 := Aside0.mk hB.size
 have HB := Aside0.mk hB
 clear hB
 have H : ((mutoscopekeep_Tape_Next.f k s0_0 s0_1 4).bind fun bt187 => (if bt187.1 = 0 then (some (0, 0, 0, 0, 0, bt187.2)) else (if bt187.1 = 1 then ((mutoscopekeep_Tape_ease.f k s0_0 bt187.2).bind fun bt189 => (some (2, bt189.1, bt189.2.1, bt189.2.2.1, bt189.2.2.2.1, bt189.2.2.2.2))) else (some (1, 0, 0, 0, 0, bt187.2))))) = some (r1, r2, r3, r4, r5, r6) := h
 clear h
 replace H := Option.bind_eq_some_iff.mp H
 obtain ⟨⟨t187, t188⟩, A20, H⟩ := H
 replace H : (if t187 = 0 then (some (0, 0, 0, 0, 0, t188)) else (if t187 = 1 then ((mutoscopekeep_Tape_ease.f k s0_0 t188).bind fun bt189 => (some (2, bt189.1, bt189.2.1, bt189.2.2.1, bt189.2.2.2.1, bt189.2.2.2.2))) else (some (1, 0, 0, 0, 0, t188)))) = some (r1, r2, r3, r4, r5, r6) := H
 have A2 := Aside0.mk A20
 clear A20
 by_cases c3 : t187 = 0
 ·rw [if_pos c3] at H
  have c3b0 : (t187 == 0) = true := beq_iff_eq.mpr c3
  have c3b1 : (t187 != 0) = false := bne_eq_false_iff_eq.mpr c3
  clear c3
  simp only [Option.some.injEq, Prod.mk.injEq] at H
  obtain ⟨rfl, rfl, rfl, rfl, rfl, rfl⟩ := H
  go_enter Try.func35, Try.ntmps35
  go_wp2_with (first | ((with_reducible refine gate_dst (N := 3) rfl ?_); refine box_event ?hg (N := 3) ?hd (cs := #[.int .i64 0, .int .i64 0, .int .i64 0, .int .i64 0]) (t := 23) ?hr ?_; (case hd => rfl); (case hg => rfl); (case hr => first | (go_simp; done) | (go_simp; rfl)); intro gb186 hg w4 hbox hb; have n0_ := Aside0.mk (IsS41.below (by repeat (first | (with_reducible first | exact HI0.out | apply IsS41.alloc | apply IsS41.drewN | apply IsS41.drew | apply IsS41.set_1) | exact HI0.out)) hb); have n1_ := Aside0.mk (KeepBut.trans (by repeat (first | (with_reducible first | exact HK.out | apply KeepBut.set_ | apply keep_drewN | apply keep_drew | apply keep_alloc) | exact HK.out)) (KeepBut.of_below hb g none) (.inl rfl)); have n2_ := Aside0.mk (below_step (by repeat (first | (with_reducible first | exact HB.out | apply below_alloc | apply pw_below_drewN | apply below_drew1 | refine below_set ?_ (IsS41.ge HI0.out)) | exact HB.out)) hb); have n3_ := Aside0.mk (hbox); have n4_ := Aside0.mk ((by rw [hg]; exact (keep_size (w := w) (g := g) (row := none) (by repeat (first | (with_reducible first | exact HK.out | apply KeepBut.set_ | apply keep_drewN | apply keep_drew | apply keep_alloc) | exact HK.out))) : w.heap.size ≤ gb186)); have n5_ := Aside0.mk ((Nat.le_trans HW0.out (by rw [hg]; exact (keep_size (w := w) (g := g) (row := none) (by repeat (first | (with_reducible first | exact HK.out | apply KeepBut.set_ | apply keep_drewN | apply keep_drew | apply keep_alloc) | exact HK.out))) : w.heap.size ≤ gb186) : w0.heap.size ≤ gb186)); have n6_ := Aside0.mk ((by rw [hg]; exact Nat.ne_of_lt (IsS41.lt (show IsS41 w0 _ g s0_0 s0_1 from by repeat (first | (with_reducible first | exact HI0.out | apply IsS41.alloc | apply IsS41.drewN | apply IsS41.drew | apply IsS41.set_1) | exact HI0.out))) : g ≠ gb186)); have n7_ := Aside0.mk ((by rw [hg]; exact Nat.ne_of_gt (IsS41.lt (show IsS41 w0 _ g s0_0 s0_1 from by repeat (first | (with_reducible first | exact HI0.out | apply IsS41.alloc | apply IsS41.drewN | apply IsS41.drew | apply IsS41.set_1) | exact HI0.out))) : gb186 ≠ g)); clear HI0; clear HK; clear HB; have HI0 := n0_; have HK := n1_; have HB := n2_; have BK186 := n3_; have GW186 := n4_; have GE186 := n5_; have NB0_186 := n6_; have NB186_0 := n7_; clear n0_ n1_ n2_ n3_ n4_ n5_ n6_ n7_; clear hb hbox hg) | ((with_reducible refine gate_callee (f := 33) rfl ?_); refine goesL_ (some 5) rfl rfl Try.func33 (by kernel_rfl) rfl #[.pointer (some ⟨g, 0, none⟩), .int .i64 4] rfl (by (try simp only [List.map_toArray, List.map_cons, List.map_nil]); first | done | rfl | (simp only [List.length_drop, List.length_take]; rfl)) ?_; (with_reducible refine (mutoscopekeep_Tape_Next.calls k g s0_0 s0_1 4 t187 t188 w0 _ ?side1 ?side2 A2.out).mono ?_); (case side1 => repeat (first | (with_reducible first | exact HI0.out | apply IsS41.alloc | apply IsS41.drewN | apply IsS41.drew | apply IsS41.set_1 | refine IsS41.far ?_ NB0_186.out _) | exact HI0.out)); (case side2 => repeat (first | (with_reducible first | exact HB.out | apply below_alloc | apply pw_below_drewN | apply below_drew1 | refine below_set ?_ (IsS41.ge HI0.out) | refine below_set ?_ GE186.out) | exact HB.out)); rintro e w5 ⟨rfl, hi, hb, hk⟩; refine ⟨_, rfl, ?_⟩; have n0_ := Aside0.mk (KeepBut.blk hk (g' := gb186) (o := .cells #[.int .i64 0, .int .i64 0, .int .i64 0, .int .i64 0] 23 (0, 0)) (by (with_reducible repeat (first | refine blk_drewN ?_ _ | refine blk_drew ?_ | refine blk_alloc ?_ _)); exact BK186.out) NB186_0.out (by simp)); have n1_ := Aside0.mk (KeepBut.trans (by repeat (first | (with_reducible first | exact HK.out | apply KeepBut.set_ | apply keep_drewN | apply keep_drew | apply keep_alloc | refine keep_far ?_ GW186.out _) | exact HK.out)) hk (.inl rfl)); have n2_ := Aside0.mk (hb); have n3_ := Aside0.mk (hi); clear BK186; clear HK; clear HB; clear HI0; have BK186 := n0_; have HK := n1_; have HB := n2_; have HI0 := n3_; clear n0_ n1_ n2_ n3_; (try clear hb); (try clear hb2); (try clear hk); (try clear hi); have hnb6 := NB186_0.out; have hnc6 := NB0_186.out; have hcz7_0 : w5.cell? ⟨gb186, 0, none⟩ = some (.int .i64 0) := (blk_cell BK186.out 0).trans rfl; have hcz7_1 : w5.cell? ⟨gb186, 1, none⟩ = some (.int .i64 0) := (blk_cell BK186.out 1).trans rfl; have hcz7_2 : w5.cell? ⟨gb186, 2, none⟩ = some (.int .i64 0) := (blk_cell BK186.out 2).trans rfl; have hcz7_3 : w5.cell? ⟨gb186, 3, none⟩ = some (.int .i64 0) := (blk_cell BK186.out 3).trans rfl; have hfz7_0 := blk_frozen BK186.out 0; have hfz7_1 := blk_frozen BK186.out 1; have hfz7_2 := blk_frozen BK186.out 2; have hfz7_3 := blk_frozen BK186.out 3))
  refine bodyPost_ret (results_tc rfl _ _ gb186 23 #[.int .i64 0, .int .i64 0, .int .i64 0, .int .i64 0] (0, 0) _ rfl (by (with_reducible repeat (first | refine blk_drewN ?_ _ | refine blk_drew ?_ | refine blk_alloc ?_ _)); refine blk_put (cs := #[.int .i64 0, .int .i64 0, .int .i64 0, .int .i64 0]) ?_ 3 _ rfl; (with_reducible repeat (first | refine blk_drewN ?_ _ | refine blk_drew ?_ | refine blk_alloc ?_ _)); refine blk_put (cs := #[.int .i64 0, .int .i64 0, .int .i64 0, .int .i64 0]) ?_ 2 _ rfl; (with_reducible repeat (first | refine blk_drewN ?_ _ | refine blk_drew ?_ | refine blk_alloc ?_ _)); refine blk_put (cs := #[.int .i64 0, .int .i64 0, .int .i64 0, .int .i64 0]) ?_ 1 _ rfl; (with_reducible repeat (first | refine blk_drewN ?_ _ | refine blk_drew ?_ | refine blk_alloc ?_ _)); refine blk_put (cs := #[.int .i64 0, .int .i64 0, .int .i64 0, .int .i64 0]) ?_ 0 _ rfl; (with_reducible repeat (first | refine blk_drewN ?_ _ | refine blk_drew ?_ | refine blk_alloc ?_ _)); exact BK186.out) Try.underlying23 rfl (by kernel_rfl)) rfl ?_
  exact ⟨by first | rfl | (simp [errW_none, errW_some] <;> rfl) | (simp [*, errW_none, errW_some] <;> rfl), by repeat (first | (with_reducible first | exact HI0.out | apply IsS41.alloc | apply IsS41.drewN | apply IsS41.drew | apply IsS41.set_1 | refine IsS41.far ?_ NB0_186.out _) | exact HI0.out), by repeat (first | (with_reducible first | exact HB.out | apply below_alloc | apply pw_below_drewN | apply below_drew1 | refine below_set ?_ (IsS41.ge HI0.out) | refine below_set ?_ GE186.out) | exact HB.out), by repeat (first | (with_reducible first | exact HK.out | apply KeepBut.set_ | apply keep_drewN | apply keep_drew | apply keep_alloc | refine keep_far ?_ GW186.out _) | exact HK.out)⟩
 ·rw [if_neg c3] at H
  have c3b0 : (t187 == 0) = false := beq_eq_false_iff_ne.mpr c3
  have c3b1 : (t187 != 0) = true := bne_iff_ne.mpr c3
  by_cases c8 : t187 = 1
  ·rw [if_pos c8] at H
   have c8b0 : (t187 == 1) = true := beq_iff_eq.mpr c8
   have c8b1 : (t187 != 1) = false := bne_eq_false_iff_eq.mpr c8
   clear c8
   replace H := Option.bind_eq_some_iff.mp H
   obtain ⟨⟨t189, t190, t191, t192, t193⟩, A90, H⟩ := H
   replace H : (some (2, t189, t190, t191, t192, t193)) = some (r1, r2, r3, r4, r5, r6) := H
   have A9 := Aside0.mk A90
   clear A90
   simp only [Option.some.injEq, Prod.mk.injEq] at H
   obtain ⟨rfl, rfl, rfl, rfl, rfl, rfl⟩ := H
   go_enter Try.func35, Try.ntmps35
   go_wp2_with (first | ((with_reducible refine gate_dst (N := 3) rfl ?_); refine box_event ?hg (N := 3) ?hd (cs := #[.int .i64 0, .int .i64 0, .int .i64 0, .int .i64 0]) (t := 23) ?hr ?_; (case hd => rfl); (case hg => rfl); (case hr => first | (go_simp; done) | (go_simp; rfl)); intro gb186 hg w10 hbox hb; have n0_ := Aside0.mk (IsS41.below (by repeat (first | (with_reducible first | exact HI0.out | apply IsS41.alloc | apply IsS41.drewN | apply IsS41.drew | apply IsS41.set_1) | exact HI0.out)) hb); have n1_ := Aside0.mk (KeepBut.trans (by repeat (first | (with_reducible first | exact HK.out | apply KeepBut.set_ | apply keep_drewN | apply keep_drew | apply keep_alloc) | exact HK.out)) (KeepBut.of_below hb g none) (.inl rfl)); have n2_ := Aside0.mk (below_step (by repeat (first | (with_reducible first | exact HB.out | apply below_alloc | apply pw_below_drewN | apply below_drew1 | refine below_set ?_ (IsS41.ge HI0.out)) | exact HB.out)) hb); have n3_ := Aside0.mk (hbox); have n4_ := Aside0.mk ((by rw [hg]; exact (keep_size (w := w) (g := g) (row := none) (by repeat (first | (with_reducible first | exact HK.out | apply KeepBut.set_ | apply keep_drewN | apply keep_drew | apply keep_alloc) | exact HK.out))) : w.heap.size ≤ gb186)); have n5_ := Aside0.mk ((Nat.le_trans HW0.out (by rw [hg]; exact (keep_size (w := w) (g := g) (row := none) (by repeat (first | (with_reducible first | exact HK.out | apply KeepBut.set_ | apply keep_drewN | apply keep_drew | apply keep_alloc) | exact HK.out))) : w.heap.size ≤ gb186) : w0.heap.size ≤ gb186)); have n6_ := Aside0.mk ((by rw [hg]; exact Nat.ne_of_lt (IsS41.lt (show IsS41 w0 _ g s0_0 s0_1 from by repeat (first | (with_reducible first | exact HI0.out | apply IsS41.alloc | apply IsS41.drewN | apply IsS41.drew | apply IsS41.set_1) | exact HI0.out))) : g ≠ gb186)); have n7_ := Aside0.mk ((by rw [hg]; exact Nat.ne_of_gt (IsS41.lt (show IsS41 w0 _ g s0_0 s0_1 from by repeat (first | (with_reducible first | exact HI0.out | apply IsS41.alloc | apply IsS41.drewN | apply IsS41.drew | apply IsS41.set_1) | exact HI0.out))) : gb186 ≠ g)); clear HI0; clear HK; clear HB; have HI0 := n0_; have HK := n1_; have HB := n2_; have BK186 := n3_; have GW186 := n4_; have GE186 := n5_; have NB0_186 := n6_; have NB186_0 := n7_; clear n0_ n1_ n2_ n3_ n4_ n5_ n6_ n7_; clear hb hbox hg) | ((with_reducible refine gate_callee (f := 33) rfl ?_); refine goesL_ (some 5) rfl rfl Try.func33 (by kernel_rfl) rfl #[.pointer (some ⟨g, 0, none⟩), .int .i64 4] rfl (by (try simp only [List.map_toArray, List.map_cons, List.map_nil]); first | done | rfl | (simp only [List.length_drop, List.length_take]; rfl)) ?_; (with_reducible refine (mutoscopekeep_Tape_Next.calls k g s0_0 s0_1 4 t187 t188 w0 _ ?side1 ?side2 A2.out).mono ?_); (case side1 => repeat (first | (with_reducible first | exact HI0.out | apply IsS41.alloc | apply IsS41.drewN | apply IsS41.drew | apply IsS41.set_1 | refine IsS41.far ?_ NB0_186.out _) | exact HI0.out)); (case side2 => repeat (first | (with_reducible first | exact HB.out | apply below_alloc | apply pw_below_drewN | apply below_drew1 | refine below_set ?_ (IsS41.ge HI0.out) | refine below_set ?_ GE186.out) | exact HB.out)); rintro e w11 ⟨rfl, hi, hb, hk⟩; refine ⟨_, rfl, ?_⟩; have n0_ := Aside0.mk (KeepBut.blk hk (g' := gb186) (o := .cells #[.int .i64 0, .int .i64 0, .int .i64 0, .int .i64 0] 23 (0, 0)) (by (with_reducible repeat (first | refine blk_drewN ?_ _ | refine blk_drew ?_ | refine blk_alloc ?_ _)); exact BK186.out) NB186_0.out (by simp)); have n1_ := Aside0.mk (KeepBut.trans (by repeat (first | (with_reducible first | exact HK.out | apply KeepBut.set_ | apply keep_drewN | apply keep_drew | apply keep_alloc | refine keep_far ?_ GW186.out _) | exact HK.out)) hk (.inl rfl)); have n2_ := Aside0.mk (hb); have n3_ := Aside0.mk (hi); clear BK186; clear HK; clear HB; clear HI0; have BK186 := n0_; have HK := n1_; have HB := n2_; have HI0 := n3_; clear n0_ n1_ n2_ n3_; (try clear hb); (try clear hb2); (try clear hk); (try clear hi)) | ((with_reducible refine gate_callee (f := 48) rfl ?_); refine goesL_ (some 12) rfl rfl Try.func48 (by kernel_rfl) rfl #[.pointer (some ⟨g, 0, none⟩)] rfl (by (try simp only [List.map_toArray, List.map_cons, List.map_nil]); first | done | rfl | (simp only [List.length_drop, List.length_take]; rfl)) ?_; (with_reducible refine (mutoscopekeep_Tape_ease.calls k g s0_0 t188 t189 t190 t191 t192 t193 w0 _ ?side1 ?side2 A9.out).mono ?_); (case side1 => repeat (first | (with_reducible first | exact HI0.out | apply IsS41.alloc | apply IsS41.drewN | apply IsS41.drew | apply IsS41.set_1 | refine IsS41.far ?_ NB0_186.out _) | exact HI0.out)); (case side2 => repeat (first | (with_reducible first | exact HB.out | apply below_alloc | apply pw_below_drewN | apply below_drew1 | refine below_set ?_ (IsS41.ge HI0.out) | refine below_set ?_ GE186.out) | exact HB.out)); rintro e w12 ⟨rfl, hi, hb, hk⟩; refine ⟨_, rfl, ?_⟩; have n0_ := Aside0.mk (KeepBut.blk hk (g' := gb186) (o := .cells #[.int .i64 0, .int .i64 0, .int .i64 0, .int .i64 0] 23 (0, 0)) (by (with_reducible repeat (first | refine blk_drewN ?_ _ | refine blk_drew ?_ | refine blk_alloc ?_ _)); exact BK186.out) NB186_0.out (by simp)); have n1_ := Aside0.mk (KeepBut.trans (by repeat (first | (with_reducible first | exact HK.out | apply KeepBut.set_ | apply keep_drewN | apply keep_drew | apply keep_alloc | refine keep_far ?_ GW186.out _) | exact HK.out)) hk (.inl rfl)); have n2_ := Aside0.mk (hb); have n3_ := Aside0.mk (hi); clear BK186; clear HK; clear HB; clear HI0; have BK186 := n0_; have HK := n1_; have HB := n2_; have HI0 := n3_; clear n0_ n1_ n2_ n3_; (try clear hb); (try clear hb2); (try clear hk); (try clear hi); have hnb13 := NB186_0.out; have hnc13 := NB0_186.out; have hcz14_0 : w12.cell? ⟨gb186, 0, none⟩ = some (.int .i64 0) := (blk_cell BK186.out 0).trans rfl; have hcz14_1 : w12.cell? ⟨gb186, 1, none⟩ = some (.int .i64 0) := (blk_cell BK186.out 1).trans rfl; have hcz14_2 : w12.cell? ⟨gb186, 2, none⟩ = some (.int .i64 0) := (blk_cell BK186.out 2).trans rfl; have hcz14_3 : w12.cell? ⟨gb186, 3, none⟩ = some (.int .i64 0) := (blk_cell BK186.out 3).trans rfl; have hfz14_0 := blk_frozen BK186.out 0; have hfz14_1 := blk_frozen BK186.out 1; have hfz14_2 := blk_frozen BK186.out 2; have hfz14_3 := blk_frozen BK186.out 3))
   refine bodyPost_ret (results_tc rfl _ _ gb186 23 #[.int .i64 t189, .int .i64 t190, .int .i64 t191, .int .i64 t192] (0, 0) _ rfl (by (with_reducible repeat (first | refine blk_drewN ?_ _ | refine blk_drew ?_ | refine blk_alloc ?_ _)); refine blk_put (cs := #[.int .i64 t189, .int .i64 t190, .int .i64 t191, .int .i64 0]) ?_ 3 _ rfl; (with_reducible repeat (first | refine blk_drewN ?_ _ | refine blk_drew ?_ | refine blk_alloc ?_ _)); refine blk_put (cs := #[.int .i64 t189, .int .i64 t190, .int .i64 0, .int .i64 0]) ?_ 2 _ rfl; (with_reducible repeat (first | refine blk_drewN ?_ _ | refine blk_drew ?_ | refine blk_alloc ?_ _)); refine blk_put (cs := #[.int .i64 t189, .int .i64 0, .int .i64 0, .int .i64 0]) ?_ 1 _ rfl; (with_reducible repeat (first | refine blk_drewN ?_ _ | refine blk_drew ?_ | refine blk_alloc ?_ _)); refine blk_put (cs := #[.int .i64 0, .int .i64 0, .int .i64 0, .int .i64 0]) ?_ 0 _ rfl; (with_reducible repeat (first | refine blk_drewN ?_ _ | refine blk_drew ?_ | refine blk_alloc ?_ _)); exact BK186.out) Try.underlying23 rfl (by kernel_rfl)) rfl ?_
   exact ⟨by first | rfl | (simp [errW_none, errW_some] <;> rfl) | (simp [*, errW_none, errW_some] <;> rfl), by repeat (first | (with_reducible first | exact HI0.out | apply IsS41.alloc | apply IsS41.drewN | apply IsS41.drew | apply IsS41.set_1 | refine IsS41.far ?_ NB0_186.out _) | exact HI0.out), by repeat (first | (with_reducible first | exact HB.out | apply below_alloc | apply pw_below_drewN | apply below_drew1 | refine below_set ?_ (IsS41.ge HI0.out) | refine below_set ?_ GE186.out) | exact HB.out), by repeat (first | (with_reducible first | exact HK.out | apply KeepBut.set_ | apply keep_drewN | apply keep_drew | apply keep_alloc | refine keep_far ?_ GW186.out _) | exact HK.out)⟩
  ·rw [if_neg c8] at H
   have c8b0 : (t187 == 1) = false := beq_eq_false_iff_ne.mpr c8
   have c8b1 : (t187 != 1) = true := bne_iff_ne.mpr c8
   simp only [Option.some.injEq, Prod.mk.injEq] at H
   obtain ⟨rfl, rfl, rfl, rfl, rfl, rfl⟩ := H
   go_enter Try.func35, Try.ntmps35
   go_wp2_with (first | ((with_reducible refine gate_dst (N := 3) rfl ?_); refine box_event ?hg (N := 3) ?hd (cs := #[.int .i64 0, .int .i64 0, .int .i64 0, .int .i64 0]) (t := 23) ?hr ?_; (case hd => rfl); (case hg => rfl); (case hr => first | (go_simp; done) | (go_simp; rfl)); intro gb186 hg w15 hbox hb; have n0_ := Aside0.mk (IsS41.below (by repeat (first | (with_reducible first | exact HI0.out | apply IsS41.alloc | apply IsS41.drewN | apply IsS41.drew | apply IsS41.set_1) | exact HI0.out)) hb); have n1_ := Aside0.mk (KeepBut.trans (by repeat (first | (with_reducible first | exact HK.out | apply KeepBut.set_ | apply keep_drewN | apply keep_drew | apply keep_alloc) | exact HK.out)) (KeepBut.of_below hb g none) (.inl rfl)); have n2_ := Aside0.mk (below_step (by repeat (first | (with_reducible first | exact HB.out | apply below_alloc | apply pw_below_drewN | apply below_drew1 | refine below_set ?_ (IsS41.ge HI0.out)) | exact HB.out)) hb); have n3_ := Aside0.mk (hbox); have n4_ := Aside0.mk ((by rw [hg]; exact (keep_size (w := w) (g := g) (row := none) (by repeat (first | (with_reducible first | exact HK.out | apply KeepBut.set_ | apply keep_drewN | apply keep_drew | apply keep_alloc) | exact HK.out))) : w.heap.size ≤ gb186)); have n5_ := Aside0.mk ((Nat.le_trans HW0.out (by rw [hg]; exact (keep_size (w := w) (g := g) (row := none) (by repeat (first | (with_reducible first | exact HK.out | apply KeepBut.set_ | apply keep_drewN | apply keep_drew | apply keep_alloc) | exact HK.out))) : w.heap.size ≤ gb186) : w0.heap.size ≤ gb186)); have n6_ := Aside0.mk ((by rw [hg]; exact Nat.ne_of_lt (IsS41.lt (show IsS41 w0 _ g s0_0 s0_1 from by repeat (first | (with_reducible first | exact HI0.out | apply IsS41.alloc | apply IsS41.drewN | apply IsS41.drew | apply IsS41.set_1) | exact HI0.out))) : g ≠ gb186)); have n7_ := Aside0.mk ((by rw [hg]; exact Nat.ne_of_gt (IsS41.lt (show IsS41 w0 _ g s0_0 s0_1 from by repeat (first | (with_reducible first | exact HI0.out | apply IsS41.alloc | apply IsS41.drewN | apply IsS41.drew | apply IsS41.set_1) | exact HI0.out))) : gb186 ≠ g)); clear HI0; clear HK; clear HB; have HI0 := n0_; have HK := n1_; have HB := n2_; have BK186 := n3_; have GW186 := n4_; have GE186 := n5_; have NB0_186 := n6_; have NB186_0 := n7_; clear n0_ n1_ n2_ n3_ n4_ n5_ n6_ n7_; clear hb hbox hg) | ((with_reducible refine gate_callee (f := 33) rfl ?_); refine goesL_ (some 5) rfl rfl Try.func33 (by kernel_rfl) rfl #[.pointer (some ⟨g, 0, none⟩), .int .i64 4] rfl (by (try simp only [List.map_toArray, List.map_cons, List.map_nil]); first | done | rfl | (simp only [List.length_drop, List.length_take]; rfl)) ?_; (with_reducible refine (mutoscopekeep_Tape_Next.calls k g s0_0 s0_1 4 t187 t188 w0 _ ?side1 ?side2 A2.out).mono ?_); (case side1 => repeat (first | (with_reducible first | exact HI0.out | apply IsS41.alloc | apply IsS41.drewN | apply IsS41.drew | apply IsS41.set_1 | refine IsS41.far ?_ NB0_186.out _) | exact HI0.out)); (case side2 => repeat (first | (with_reducible first | exact HB.out | apply below_alloc | apply pw_below_drewN | apply below_drew1 | refine below_set ?_ (IsS41.ge HI0.out) | refine below_set ?_ GE186.out) | exact HB.out)); rintro e w16 ⟨rfl, hi, hb, hk⟩; refine ⟨_, rfl, ?_⟩; have n0_ := Aside0.mk (KeepBut.blk hk (g' := gb186) (o := .cells #[.int .i64 0, .int .i64 0, .int .i64 0, .int .i64 0] 23 (0, 0)) (by (with_reducible repeat (first | refine blk_drewN ?_ _ | refine blk_drew ?_ | refine blk_alloc ?_ _)); exact BK186.out) NB186_0.out (by simp)); have n1_ := Aside0.mk (KeepBut.trans (by repeat (first | (with_reducible first | exact HK.out | apply KeepBut.set_ | apply keep_drewN | apply keep_drew | apply keep_alloc | refine keep_far ?_ GW186.out _) | exact HK.out)) hk (.inl rfl)); have n2_ := Aside0.mk (hb); have n3_ := Aside0.mk (hi); clear BK186; clear HK; clear HB; clear HI0; have BK186 := n0_; have HK := n1_; have HB := n2_; have HI0 := n3_; clear n0_ n1_ n2_ n3_; (try clear hb); (try clear hb2); (try clear hk); (try clear hi); have hnb17 := NB186_0.out; have hnc17 := NB0_186.out; have hcz18_0 : w16.cell? ⟨gb186, 0, none⟩ = some (.int .i64 0) := (blk_cell BK186.out 0).trans rfl; have hcz18_1 : w16.cell? ⟨gb186, 1, none⟩ = some (.int .i64 0) := (blk_cell BK186.out 1).trans rfl; have hcz18_2 : w16.cell? ⟨gb186, 2, none⟩ = some (.int .i64 0) := (blk_cell BK186.out 2).trans rfl; have hcz18_3 : w16.cell? ⟨gb186, 3, none⟩ = some (.int .i64 0) := (blk_cell BK186.out 3).trans rfl; have hfz18_0 := blk_frozen BK186.out 0; have hfz18_1 := blk_frozen BK186.out 1; have hfz18_2 := blk_frozen BK186.out 2; have hfz18_3 := blk_frozen BK186.out 3))
   refine bodyPost_ret (results_tc rfl _ _ gb186 23 #[.int .i64 0, .int .i64 0, .int .i64 0, .int .i64 0] (0, 0) _ rfl (by (with_reducible repeat (first | refine blk_drewN ?_ _ | refine blk_drew ?_ | refine blk_alloc ?_ _)); refine blk_put (cs := #[.int .i64 0, .int .i64 0, .int .i64 0, .int .i64 0]) ?_ 3 _ rfl; (with_reducible repeat (first | refine blk_drewN ?_ _ | refine blk_drew ?_ | refine blk_alloc ?_ _)); refine blk_put (cs := #[.int .i64 0, .int .i64 0, .int .i64 0, .int .i64 0]) ?_ 2 _ rfl; (with_reducible repeat (first | refine blk_drewN ?_ _ | refine blk_drew ?_ | refine blk_alloc ?_ _)); refine blk_put (cs := #[.int .i64 0, .int .i64 0, .int .i64 0, .int .i64 0]) ?_ 1 _ rfl; (with_reducible repeat (first | refine blk_drewN ?_ _ | refine blk_drew ?_ | refine blk_alloc ?_ _)); refine blk_put (cs := #[.int .i64 0, .int .i64 0, .int .i64 0, .int .i64 0]) ?_ 0 _ rfl; (with_reducible repeat (first | refine blk_drewN ?_ _ | refine blk_drew ?_ | refine blk_alloc ?_ _)); exact BK186.out) Try.underlying23 rfl (by kernel_rfl)) rfl ?_
   exact ⟨by first | rfl | (simp [errW_none, errW_some] <;> rfl) | (simp [*, errW_none, errW_some] <;> rfl), by repeat (first | (with_reducible first | exact HI0.out | apply IsS41.alloc | apply IsS41.drewN | apply IsS41.drew | apply IsS41.set_1 | refine IsS41.far ?_ NB0_186.out _) | exact HI0.out), by repeat (first | (with_reducible first | exact HB.out | apply below_alloc | apply pw_below_drewN | apply below_drew1 | refine below_set ?_ (IsS41.ge HI0.out) | refine below_set ?_ GE186.out) | exact HB.out), by repeat (first | (with_reducible first | exact HK.out | apply KeepBut.set_ | apply keep_drewN | apply keep_drew | apply keep_alloc | refine keep_far ?_ GW186.out _) | exact HK.out)⟩
end Go.Proofs.Ytejnbjclcdmopaa.PM
end

section
namespace Go.Proofs.Ytejnbjclcdmopaa.PM
open Go.RowKit Go.Proofs.YtejnbjclcdmopaaW.PrintWords Go.Proofs.YtejnbjclcdmopaaW.PrintLast Go.Proofs.YtejnbjclcdmopaaW.PrintMore
attribute [local go_sem] max2_int min2_int max_two min_two max_three min_three max_four min_four
attribute [local go_sem] Go.Proofs.Ytejnbjclcdmopaa.MS.isSome_setCell
set_option linter.unusedVariables false
set_option linter.unusedSimpArgs false
def mutoscopekeep_Tape_Keys.l0 : Nat → Int → Int → List (S34) → Int → Int → List Int → Int → Option ((List (S34)) × Int)
 | 0, _, _, _, _, _, _, _ => none
 | k + 1, x1, x2, x7, x8, x9, x1000, x1001 => if x9 > 0 then ((mutoscopekeep_Tape_Number.f k x1000 x1001 x1 x2).bind fun bt198 => ((mutoscopekeep_Tape_how.f k x1000 bt198.2).bind fun bt201 => (if x7.length < 2513169434916 then ((mutoscopekeep_Tape_Next.f k x1000 bt201.2.2.2.2.2 8).bind fun bt210 => (mutoscopekeep_Tape_Keys.l0 k x1 x2 (x7 ++ [(⟨x8, bt198.1, bt201.1, (⟨bt201.2.1, bt201.2.2.1, bt201.2.2.2.1, bt201.2.2.2.2.1⟩ : S23)⟩ : S34)]) (wrap64 ((wrap64 (x8 + 1)) + bt210.1)) (wrap64 (x9 - 1)) x1000 bt210.2)) else (none)))) else (some (x7, x1001))
def mutoscopekeep_Tape_Keys.f (k : Nat) (s0_0 : List Int) (s0_1 : Int) (a1 : Int) (a2 : Int) : Option ((List (S34)) × Int) := (mutoscopekeep_Tape_Next.f k s0_0 s0_1 6).bind fun bt194 => ((mutoscopekeep_Tape_Next.f k s0_0 bt194.2 4).bind fun bt196 => (mutoscopekeep_Tape_Keys.l0 k a1 a2 ([] : List (S34)) bt194.1 bt196.1 s0_0 bt196.2))
set_option maxHeartbeats 8000000 in
set_option maxRecDepth 100000 in
theorem mutoscopekeep_Tape_Keys.calls (k : Nat) (g : Nat) (s0_0 : List Int) (s0_1 : Int) (a1 : Int) (a2 : Int) (r1 : List (S34)) (r2 : Int) (w0 w : World) (hI : IsS41 w0 w g s0_0 s0_1) (hB : Below w0.heap.size w0 w) (h : mutoscopekeep_Tape_Keys.f k s0_0 s0_1 a1 a2 = some (r1, r2)) :
  Calls Try.prog 21 #[.pointer (some ⟨g, 0, none⟩), .int .i64 a1, .int .i64 a2] w fun e w' => ∃ v0_ : Value, e = .returned (v0_) ∧ Kd.R k34 34 w' w.heap.size (fun _ => True) v0_ r1 ∧ IsS41 w0 w' g s0_0 r2 ∧ Below w0.heap.size w0 w' ∧ KeepBut w w' g none := by
 have hu34 := Try.underlying34
 have hu23 := Try.underlying23
 have HI0 := Aside0.mk hI
 have HK := Aside0.mk (KeepBut.refl w g none)
 have HL := Aside0.mk hB.size
 clear hI
 have HW0 := Aside0.mk hB.size
 have HB := Aside0.mk hB
 clear hB
 have H : ((mutoscopekeep_Tape_Next.f k s0_0 s0_1 6).bind fun bt194 => ((mutoscopekeep_Tape_Next.f k s0_0 bt194.2 4).bind fun bt196 => (mutoscopekeep_Tape_Keys.l0 k a1 a2 ([] : List (S34)) bt194.1 bt196.1 s0_0 bt196.2))) = some (r1, r2) := h
 clear h
 replace H := Option.bind_eq_some_iff.mp H
 obtain ⟨⟨t194, t195⟩, A40, H⟩ := H
 replace H : ((mutoscopekeep_Tape_Next.f k s0_0 t195 4).bind fun bt196 => (mutoscopekeep_Tape_Keys.l0 k a1 a2 ([] : List (S34)) t194 bt196.1 s0_0 bt196.2)) = some (r1, r2) := H
 have A4 := Aside0.mk A40
 clear A40
 replace H := Option.bind_eq_some_iff.mp H
 obtain ⟨⟨t196, t197⟩, A50, H⟩ := H
 replace H : (mutoscopekeep_Tape_Keys.l0 k a1 a2 ([] : List (S34)) t194 t196 s0_0 t197) = some (r1, r2) := H
 have A5 := Aside0.mk A50
 clear A50
 have H' := Aside0.mk H
 clear H
 go_enter Try.func21, Try.ntmps21
 go_wp2_with (first | ((with_reducible refine gate_callee (f := 33) rfl ?_); refine goesL_ (some 12) rfl rfl Try.func33 (by kernel_rfl) rfl #[.pointer (some ⟨g, 0, none⟩), .int .i64 6] rfl (by (try simp only [List.map_toArray, List.map_cons, List.map_nil]); first | done | rfl | (simp only [List.length_drop, List.length_take]; rfl)) ?_; (with_reducible refine (mutoscopekeep_Tape_Next.calls k g s0_0 s0_1 6 t194 t195 w0 _ ?side1 ?side2 A4.out).mono ?_); (case side1 => repeat (first | (with_reducible first | exact HI0.out | apply IsS41.alloc | apply IsS41.drewN | apply IsS41.drew | apply IsS41.set_1) | exact HI0.out)); (case side2 => repeat (first | (with_reducible first | exact HB.out | apply below_alloc | apply pw_below_drewN | apply below_drew1 | refine below_set ?_ (IsS41.ge HI0.out)) | exact HB.out)); rintro e w6 ⟨rfl, hi, hb, hk⟩; refine ⟨_, rfl, ?_⟩; have n0_ := Aside0.mk (KeepBut.trans (by repeat (first | (with_reducible first | exact HK.out | apply KeepBut.set_ | apply keep_drewN | apply keep_drew | apply keep_alloc) | exact HK.out)) hk (.inl rfl)); have n1_ := Aside0.mk (hb); have n2_ := Aside0.mk (hi); clear HK; clear HB; clear HI0; have HK := n0_; have HB := n1_; have HI0 := n2_; clear n0_ n1_ n2_; (try clear hb); (try clear hb2); (try clear hk); (try clear hi)) | ((with_reducible refine gate_callee (f := 33) rfl ?_); refine goesL_ (some 14) rfl rfl Try.func33 (by kernel_rfl) rfl #[.pointer (some ⟨g, 0, none⟩), .int .i64 4] rfl (by (try simp only [List.map_toArray, List.map_cons, List.map_nil]); first | done | rfl | (simp only [List.length_drop, List.length_take]; rfl)) ?_; (with_reducible refine (mutoscopekeep_Tape_Next.calls k g s0_0 t195 4 t196 t197 w0 _ ?side1 ?side2 A5.out).mono ?_); (case side1 => repeat (first | (with_reducible first | exact HI0.out | apply IsS41.alloc | apply IsS41.drewN | apply IsS41.drew | apply IsS41.set_1) | exact HI0.out)); (case side2 => repeat (first | (with_reducible first | exact HB.out | apply below_alloc | apply pw_below_drewN | apply below_drew1 | refine below_set ?_ (IsS41.ge HI0.out)) | exact HB.out)); rintro e w7 ⟨rfl, hi, hb, hk⟩; refine ⟨_, rfl, ?_⟩; have n0_ := Aside0.mk (KeepBut.trans (by repeat (first | (with_reducible first | exact HK.out | apply KeepBut.set_ | apply keep_drewN | apply keep_drew | apply keep_alloc) | exact HK.out)) hk (.inl rfl)); have n1_ := Aside0.mk (hb); have n2_ := Aside0.mk (hi); clear HK; clear HB; clear HI0; have HK := n0_; have HB := n1_; have HI0 := n2_; clear n0_ n1_ n2_; (try clear hb); (try clear hb2); (try clear hk); (try clear hi)))
 go_loopg [7, 8, 9] k (fun kq v7 v8 v9 w' => ∃ (x7_1 : List (S34)) (x8_1 : Int) (x9_1 : Int) (x1001_1 : Int), v8 = .int .i64 x8_1 ∧ v9 = .int .i64 x9_1 ∧ Aside0 (mutoscopekeep_Tape_Keys.l0 kq a1 a2 x7_1 x8_1 x9_1 s0_0 x1001_1 = some (r1, r2)) ∧ Aside0 (kq ≤ k) ∧ Aside0 (Kd.R k34 34 w' w.heap.size (fun _ => True) v7 x7_1) ∧ Aside0 (IsS41 w0 w' g s0_0 x1001_1) ∧ Aside0 (KeepBut w w' g none) ∧ Aside0 (Below w0.heap.size w0 w'))
 case atStart => exact ⟨(([] : List (S34))), (t194), (t196), (t197), (by first | rfl | (simp; done) | (simp [*]; done)), (by first | rfl | (simp; done) | (simp [*]; done)), H', ⟨Nat.le_refl _⟩, ⟨by first | exact Kd.R_nil _ _ _ _ _ | exact Kd.N_nil _ _ _ _ _ | exact Kd.V_nil _ _ _ _ _ | exact Kd.Q_nil _ _ _ _ _ | exact Kd.S_nil _ _ _ _ _⟩, ⟨by repeat (first | (with_reducible first | exact HI0.out | apply IsS41.alloc | apply IsS41.drewN | apply IsS41.drew | apply IsS41.set_1) | exact HI0.out)⟩, ⟨by repeat (first | (with_reducible first | exact HK.out | apply KeepBut.set_ | apply keep_drewN | apply keep_drew | apply keep_alloc) | exact HK.out)⟩, ⟨by repeat (first | (with_reducible first | exact HB.out | apply below_alloc | apply pw_below_drewN | apply below_drew1 | refine below_set ?_ (IsS41.ge HI0.out)) | exact HB.out)⟩⟩
 case round =>
  clear H'
  try clear c2
  try clear p2
  try clear c3
  obtain ⟨x7_1, x8_1, x9_1, x1001_1, rfl, rfl, HA, HK1, HO_7, HI0, HK, HB⟩ := hrel
  cases gk with
  | zero => exact absurd HA.out (by simp [mutoscopekeep_Tape_Keys.l0])
  | succ k1 =>
   have H := HA.out
   clear HA
   simp only [mutoscopekeep_Tape_Keys.l0] at H
   by_cases c8 : x9_1 > 0
   ·rw [if_pos c8] at H
    have c8b0 : decide (0 < x9_1) = true := decide_eq_true c8
    clear c8
    replace H := Option.bind_eq_some_iff.mp H
    obtain ⟨⟨t198, t199⟩, A90, H⟩ := H
    replace H : ((mutoscopekeep_Tape_how.f k1 s0_0 t199).bind fun bt201 => (if x7_1.length < 2513169434916 then ((mutoscopekeep_Tape_Next.f k1 s0_0 bt201.2.2.2.2.2 8).bind fun bt210 => (mutoscopekeep_Tape_Keys.l0 k1 a1 a2 (x7_1 ++ [(⟨x8_1, t198, bt201.1, (⟨bt201.2.1, bt201.2.2.1, bt201.2.2.2.1, bt201.2.2.2.2.1⟩ : S23)⟩ : S34)]) (wrap64 ((wrap64 (x8_1 + 1)) + bt210.1)) (wrap64 (x9_1 - 1)) s0_0 bt210.2)) else (none))) = some (r1, r2) := H
    have A9 := Aside0.mk A90
    clear A90
    replace H := Option.bind_eq_some_iff.mp H
    obtain ⟨⟨t201, t202, t203, t204, t205, t206⟩, A100, H⟩ := H
    replace H : (if x7_1.length < 2513169434916 then ((mutoscopekeep_Tape_Next.f k1 s0_0 t206 8).bind fun bt210 => (mutoscopekeep_Tape_Keys.l0 k1 a1 a2 (x7_1 ++ [(⟨x8_1, t198, t201, (⟨t202, t203, t204, t205⟩ : S23)⟩ : S34)]) (wrap64 ((wrap64 (x8_1 + 1)) + bt210.1)) (wrap64 (x9_1 - 1)) s0_0 bt210.2)) else (none)) = some (r1, r2) := H
    have A10 := Aside0.mk A100
    clear A100
    by_cases c11 : x7_1.length < 2513169434916
    ·rw [if_pos c11] at H
     have LMc11 := Aside0.mk c11
     clear c11
     obtain ⟨y207, hy207⟩ : ∃ y_ : List (S34), y_ = (x7_1 ++ [(⟨x8_1, t198, t201, (⟨t202, t203, t204, t205⟩ : S23)⟩ : S34)]) := ⟨_, rfl⟩
     replace H : ((mutoscopekeep_Tape_Next.f k1 s0_0 t206 8).bind fun bt210 => (mutoscopekeep_Tape_Keys.l0 k1 a1 a2 y207 (wrap64 ((wrap64 (x8_1 + 1)) + bt210.1)) (wrap64 (x9_1 - 1)) s0_0 bt210.2)) = some (r1, r2) := by first | (rw [hy207]; with_reducible exact H) | (have H2_ := (Option.bind_some _ _).symm.trans H; rw [hy207]; with_reducible exact H2_) | (have H2_ := (Option.bind_some _ _).symm.trans H; with_reducible exact H2_) | with_reducible exact H | (rw [hy207]; exact H) | exact H
     have Ny207 := Aside0.mk hy207
     clear hy207
     replace H := Option.bind_eq_some_iff.mp H
     obtain ⟨⟨t210, t211⟩, A120, H⟩ := H
     replace H : (mutoscopekeep_Tape_Keys.l0 k1 a1 a2 y207 (wrap64 ((wrap64 (x8_1 + 1)) + t210)) (wrap64 (x9_1 - 1)) s0_0 t211) = some (r1, r2) := H
     have A12 := Aside0.mk A120
     clear A120
     have H' := Aside0.mk H
     clear H
     go_wp2_with (first | ((with_reducible refine gate_callee (f := 34) rfl ?_); refine goesL_ (some 23) rfl rfl Try.func34 (by kernel_rfl) rfl #[.pointer (some ⟨g, 0, none⟩), .int .i64 a1, .int .i64 a2] rfl (by (try simp only [List.map_toArray, List.map_cons, List.map_nil]); first | done | rfl | (simp only [List.length_drop, List.length_take]; rfl)) ?_; (with_reducible refine (mutoscopekeep_Tape_Number.calls k1 g s0_0 x1001_1 a1 a2 t198 t199 w0 _ ?side1 ?side2 A9.out).mono ?_); (case side1 => repeat (first | (with_reducible first | exact HI0.out | apply IsS41.alloc | apply IsS41.drewN | apply IsS41.drew | apply IsS41.set_1) | exact HI0.out)); (case side2 => repeat (first | (with_reducible first | exact HB.out | apply below_alloc | apply pw_below_drewN | apply below_drew1 | refine below_set ?_ (IsS41.ge HI0.out)) | exact HB.out)); rintro e w13 ⟨rfl, hi, hb, hk⟩; refine ⟨_, rfl, ?_⟩; have n0_ := Aside0.mk (Kd.R_mono (Kd.R_keep (IsS41.apart (show IsS41 w0 _ g s0_0 x1001_1 from by repeat (first | (with_reducible first | exact HI0.out | apply IsS41.alloc | apply IsS41.drewN | apply IsS41.drew | apply IsS41.set_1) | exact HI0.out)) (by (with_reducible repeat (first | apply Kd.R_alloc | apply Kd.R_drewN | apply Kd.R_drew)); exact HO_7.out) (by decide)) hk (fun _ h => h.2)) (fun _ h => h.1)); have n1_ := Aside0.mk (KeepBut.trans (by repeat (first | (with_reducible first | exact HK.out | apply KeepBut.set_ | apply keep_drewN | apply keep_drew | apply keep_alloc) | exact HK.out)) hk (.inl rfl)); have n2_ := Aside0.mk (hb); have n3_ := Aside0.mk (hi); clear HO_7; clear HK; clear HB; clear HI0; have HO_7 := n0_; have HK := n1_; have HB := n2_; have HI0 := n3_; clear n0_ n1_ n2_ n3_; (try clear hb); (try clear hb2); (try clear hk); (try clear hi)) | ((with_reducible refine gate_dst (N := 10) rfl ?_); refine box_event ?hg (N := 10) ?hd (cs := #[.int .i64 0, .int .i64 0, .int .i64 0, .int .i64 0, .int .i64 0, .int .i64 0, .int .i64 0]) (t := 34) ?hr ?_; (case hd => rfl); (case hg => rfl); (case hr => first | (go_simp; done) | (go_simp; rfl)); intro gb200 hg w14 hbox hb; have n0_ := Aside0.mk (Kd.R_below (Kd.R_elderB (by (with_reducible repeat (first | apply Kd.R_alloc | apply Kd.R_drewN | apply Kd.R_drew)); exact HO_7.out) gb200 (Nat.le_of_eq hg.symm)) hb); have n1_ := Aside0.mk (IsS41.below (by repeat (first | (with_reducible first | exact HI0.out | apply IsS41.alloc | apply IsS41.drewN | apply IsS41.drew | apply IsS41.set_1) | exact HI0.out)) hb); have n2_ := Aside0.mk (KeepBut.trans (by repeat (first | (with_reducible first | exact HK.out | apply KeepBut.set_ | apply keep_drewN | apply keep_drew | apply keep_alloc) | exact HK.out)) (KeepBut.of_below hb g none) (.inl rfl)); have n3_ := Aside0.mk (below_step (by repeat (first | (with_reducible first | exact HB.out | apply below_alloc | apply pw_below_drewN | apply below_drew1 | refine below_set ?_ (IsS41.ge HI0.out)) | exact HB.out)) hb); have n4_ := Aside0.mk (hbox); have n5_ := Aside0.mk ((by rw [hg]; exact (keep_size (w := w) (g := g) (row := none) (by repeat (first | (with_reducible first | exact HK.out | apply KeepBut.set_ | apply keep_drewN | apply keep_drew | apply keep_alloc) | exact HK.out))) : w.heap.size ≤ gb200)); have n6_ := Aside0.mk ((Nat.le_trans HW0.out (by rw [hg]; exact (keep_size (w := w) (g := g) (row := none) (by repeat (first | (with_reducible first | exact HK.out | apply KeepBut.set_ | apply keep_drewN | apply keep_drew | apply keep_alloc) | exact HK.out))) : w.heap.size ≤ gb200) : w0.heap.size ≤ gb200)); have n7_ := Aside0.mk ((by rw [hg]; exact Nat.ne_of_lt (IsS41.lt (show IsS41 w0 _ g s0_0 t199 from by repeat (first | (with_reducible first | exact HI0.out | apply IsS41.alloc | apply IsS41.drewN | apply IsS41.drew | apply IsS41.set_1) | exact HI0.out))) : g ≠ gb200)); have n8_ := Aside0.mk ((by rw [hg]; exact Nat.ne_of_gt (IsS41.lt (show IsS41 w0 _ g s0_0 t199 from by repeat (first | (with_reducible first | exact HI0.out | apply IsS41.alloc | apply IsS41.drewN | apply IsS41.drew | apply IsS41.set_1) | exact HI0.out))) : gb200 ≠ g)); clear HO_7; clear HI0; clear HK; clear HB; have HO_7 := n0_; have HI0 := n1_; have HK := n2_; have HB := n3_; have BK200 := n4_; have GW200 := n5_; have GE200 := n6_; have NB0_200 := n7_; have NB200_0 := n8_; clear n0_ n1_ n2_ n3_ n4_ n5_ n6_ n7_ n8_; clear hb hbox hg; have hnb15 := NB200_0.out; have hnc15 := NB0_200.out; have hcz16_0 : w14.cell? ⟨gb200, 0, none⟩ = some (.int .i64 0) := (blk_cell BK200.out 0).trans rfl; have hcz16_1 : w14.cell? ⟨gb200, 1, none⟩ = some (.int .i64 0) := (blk_cell BK200.out 1).trans rfl; have hcz16_2 : w14.cell? ⟨gb200, 2, none⟩ = some (.int .i64 0) := (blk_cell BK200.out 2).trans rfl; have hcz16_3 : w14.cell? ⟨gb200, 3, none⟩ = some (.int .i64 0) := (blk_cell BK200.out 3).trans rfl; have hcz16_4 : w14.cell? ⟨gb200, 4, none⟩ = some (.int .i64 0) := (blk_cell BK200.out 4).trans rfl; have hcz16_5 : w14.cell? ⟨gb200, 5, none⟩ = some (.int .i64 0) := (blk_cell BK200.out 5).trans rfl; have hcz16_6 : w14.cell? ⟨gb200, 6, none⟩ = some (.int .i64 0) := (blk_cell BK200.out 6).trans rfl; have hfz16_0 := blk_frozen BK200.out 0; have hfz16_1 := blk_frozen BK200.out 1; have hfz16_2 := blk_frozen BK200.out 2; have hfz16_3 := blk_frozen BK200.out 3; have hfz16_4 := blk_frozen BK200.out 4; have hfz16_5 := blk_frozen BK200.out 5; have hfz16_6 := blk_frozen BK200.out 6) | ((with_reducible refine gate_callee (f := 35) rfl ?_); refine goesL_ (some 27) rfl rfl Try.func35 (by kernel_rfl) rfl #[.pointer (some ⟨g, 0, none⟩)] rfl (by (try simp only [List.map_toArray, List.map_cons, List.map_nil]); first | done | rfl | (simp only [List.length_drop, List.length_take]; rfl)) ?_; (with_reducible refine (mutoscopekeep_Tape_how.calls k1 g s0_0 t199 t201 t202 t203 t204 t205 t206 w0 _ ?side1 ?side2 A10.out).mono ?_); (case side1 => repeat (first | (with_reducible first | exact HI0.out | apply IsS41.alloc | apply IsS41.drewN | apply IsS41.drew | apply IsS41.set_1 | refine IsS41.far ?_ NB0_200.out _) | exact HI0.out)); (case side2 => repeat (first | (with_reducible first | exact HB.out | apply below_alloc | apply pw_below_drewN | apply below_drew1 | refine below_set ?_ (IsS41.ge HI0.out) | refine below_set ?_ GE200.out) | exact HB.out)); rintro e w17 ⟨rfl, hi, hb, hk⟩; refine ⟨_, rfl, ?_⟩; have n0_ := Aside0.mk (Kd.R_mono (Kd.R_keep (IsS41.apart (show IsS41 w0 _ g s0_0 t199 from by repeat (first | (with_reducible first | exact HI0.out | apply IsS41.alloc | apply IsS41.drewN | apply IsS41.drew | apply IsS41.set_1 | refine IsS41.far ?_ NB0_200.out _) | exact HI0.out)) (by (with_reducible repeat (first | apply Kd.R_alloc | apply Kd.R_drewN | apply Kd.R_drew)); exact (Kd.R_mono (Kd.R_far (p := ⟨gb200, 6, none⟩) (Kd.R_far (p := ⟨gb200, 5, none⟩) (Kd.R_far (p := ⟨gb200, 4, none⟩) (Kd.R_far (p := ⟨gb200, 3, none⟩) (Kd.R_far (p := ⟨gb200, 2, none⟩) (Kd.R_far (p := ⟨gb200, 1, none⟩) (Kd.R_far (p := ⟨gb200, 0, none⟩) (Kd.R_mono HO_7.out (fun k_ hk => (⟨hk, hk.2⟩ : _ ∧ k_ ≠ gb200))) (fun _ hk => hk.2) (.int .i64 x8_1)) (fun _ hk => hk.2) (.int .i64 t198)) (fun _ hk => hk.2) (.int .i64 0)) (fun _ hk => hk.2) (.int .i64 0)) (fun _ hk => hk.2) (.int .i64 0)) (fun _ hk => hk.2) (.int .i64 0)) (fun _ hk => hk.2) (.int .i64 0)) (fun _ h_ => h_.1))) (by decide)) hk (fun _ h => h.2)) (fun _ h => h.1)); have n1_ := Aside0.mk (KeepBut.blk hk (g' := gb200) (o := .cells #[.int .i64 x8_1, .int .i64 t198, .int .i64 0, .int .i64 0, .int .i64 0, .int .i64 0, .int .i64 0] 34 (0, 0)) (by (with_reducible repeat (first | refine blk_drewN ?_ _ | refine blk_drew ?_ | refine blk_alloc ?_ _)); refine blk_put (cs := #[.int .i64 x8_1, .int .i64 t198, .int .i64 0, .int .i64 0, .int .i64 0, .int .i64 0, .int .i64 0]) ?_ 6 _ rfl; (with_reducible repeat (first | refine blk_drewN ?_ _ | refine blk_drew ?_ | refine blk_alloc ?_ _)); refine blk_put (cs := #[.int .i64 x8_1, .int .i64 t198, .int .i64 0, .int .i64 0, .int .i64 0, .int .i64 0, .int .i64 0]) ?_ 5 _ rfl; (with_reducible repeat (first | refine blk_drewN ?_ _ | refine blk_drew ?_ | refine blk_alloc ?_ _)); refine blk_put (cs := #[.int .i64 x8_1, .int .i64 t198, .int .i64 0, .int .i64 0, .int .i64 0, .int .i64 0, .int .i64 0]) ?_ 4 _ rfl; (with_reducible repeat (first | refine blk_drewN ?_ _ | refine blk_drew ?_ | refine blk_alloc ?_ _)); refine blk_put (cs := #[.int .i64 x8_1, .int .i64 t198, .int .i64 0, .int .i64 0, .int .i64 0, .int .i64 0, .int .i64 0]) ?_ 3 _ rfl; (with_reducible repeat (first | refine blk_drewN ?_ _ | refine blk_drew ?_ | refine blk_alloc ?_ _)); refine blk_put (cs := #[.int .i64 x8_1, .int .i64 t198, .int .i64 0, .int .i64 0, .int .i64 0, .int .i64 0, .int .i64 0]) ?_ 2 _ rfl; (with_reducible repeat (first | refine blk_drewN ?_ _ | refine blk_drew ?_ | refine blk_alloc ?_ _)); refine blk_put (cs := #[.int .i64 x8_1, .int .i64 0, .int .i64 0, .int .i64 0, .int .i64 0, .int .i64 0, .int .i64 0]) ?_ 1 _ rfl; (with_reducible repeat (first | refine blk_drewN ?_ _ | refine blk_drew ?_ | refine blk_alloc ?_ _)); refine blk_put (cs := #[.int .i64 0, .int .i64 0, .int .i64 0, .int .i64 0, .int .i64 0, .int .i64 0, .int .i64 0]) ?_ 0 _ rfl; (with_reducible repeat (first | refine blk_drewN ?_ _ | refine blk_drew ?_ | refine blk_alloc ?_ _)); exact BK200.out) NB200_0.out (by simp)); have n2_ := Aside0.mk (KeepBut.trans (by repeat (first | (with_reducible first | exact HK.out | apply KeepBut.set_ | apply keep_drewN | apply keep_drew | apply keep_alloc | refine keep_far ?_ GW200.out _) | exact HK.out)) hk (.inl rfl)); have n3_ := Aside0.mk (hb); have n4_ := Aside0.mk (hi); clear HO_7; clear BK200; clear HK; clear HB; clear HI0; have HO_7 := n0_; have BK200 := n1_; have HK := n2_; have HB := n3_; have HI0 := n4_; clear n0_ n1_ n2_ n3_ n4_; (try clear hb); (try clear hb2); (try clear hk); (try clear hi); have hcz18_0 : w17.cell? ⟨gb200, 0, none⟩ = some (.int .i64 x8_1) := (blk_cell BK200.out 0).trans rfl; have hcz18_1 : w17.cell? ⟨gb200, 1, none⟩ = some (.int .i64 t198) := (blk_cell BK200.out 1).trans rfl; have hcz18_2 : w17.cell? ⟨gb200, 2, none⟩ = some (.int .i64 0) := (blk_cell BK200.out 2).trans rfl; have hcz18_3 : w17.cell? ⟨gb200, 3, none⟩ = some (.int .i64 0) := (blk_cell BK200.out 3).trans rfl; have hcz18_4 : w17.cell? ⟨gb200, 4, none⟩ = some (.int .i64 0) := (blk_cell BK200.out 4).trans rfl; have hcz18_5 : w17.cell? ⟨gb200, 5, none⟩ = some (.int .i64 0) := (blk_cell BK200.out 5).trans rfl; have hcz18_6 : w17.cell? ⟨gb200, 6, none⟩ = some (.int .i64 0) := (blk_cell BK200.out 6).trans rfl; have hfz18_0 := blk_frozen BK200.out 0; have hfz18_1 := blk_frozen BK200.out 1; have hfz18_2 := blk_frozen BK200.out 2; have hfz18_3 := blk_frozen BK200.out 3; have hfz18_4 := blk_frozen BK200.out 4; have hfz18_5 := blk_frozen BK200.out 5; have hfz18_6 := blk_frozen BK200.out 6) | ((with_reducible refine gate_builtin (b := .append) (xs := #[.tmp 32, .tmp 34]) rfl ?_); at_builtin; refine Kd.R_append k34 w.heap.size rfl (.tmp 32) (.tmp 34) 31 34 (.agg #[(.int .i64 0), (.int .i64 0), (.int .i64 0), (.int .i64 0), (.int .i64 0), (.int .i64 0), (.int .i64 0)]) 56 rfl Try.underlying31 info34 rfl (by decide) (by omega) u7 x7_1 (⟨x8_1, t198, t201, (⟨t202, t203, t204, t205⟩ : S23)⟩ : S34) [.int .i64 x8_1, .int .i64 t198, .int .i64 t201, .int .i64 t202, .int .i64 t203, .int .i64 t204, .int .i64 t205] (fun k_ => k_ ≠ gb200) (fun _ => False) rfl (by first | (go_simp; done) | (go_simp; rfl)) ?aP (fun _ hk => hk.elim) ?aF ?aO (Below.refl _ _) ?aS ?aL ?_; (case aP => exact k34_mkM _ _ _ (⟨x8_1, t198, t201, (⟨t202, t203, t204, t205⟩ : S23)⟩ : S34)); (case aF => exact (fun k_ hk => Kd.freshB (g := gb200) (o := .cells #[.int .i64 x8_1, .int .i64 t198, .int .i64 t201, .int .i64 t202, .int .i64 t203, .int .i64 t204, .int .i64 t205] 34 (0, 0)) (by (with_reducible repeat (first | refine blk_drewN ?_ _ | refine blk_drew ?_ | refine blk_alloc ?_ _)); refine blk_put (cs := #[.int .i64 x8_1, .int .i64 t198, .int .i64 t201, .int .i64 t202, .int .i64 t203, .int .i64 t204, .int .i64 0]) ?_ 6 _ rfl; (with_reducible repeat (first | refine blk_drewN ?_ _ | refine blk_drew ?_ | refine blk_alloc ?_ _)); refine blk_put (cs := #[.int .i64 x8_1, .int .i64 t198, .int .i64 t201, .int .i64 t202, .int .i64 t203, .int .i64 0, .int .i64 0]) ?_ 5 _ rfl; (with_reducible repeat (first | refine blk_drewN ?_ _ | refine blk_drew ?_ | refine blk_alloc ?_ _)); refine blk_put (cs := #[.int .i64 x8_1, .int .i64 t198, .int .i64 t201, .int .i64 t202, .int .i64 0, .int .i64 0, .int .i64 0]) ?_ 4 _ rfl; (with_reducible repeat (first | refine blk_drewN ?_ _ | refine blk_drew ?_ | refine blk_alloc ?_ _)); refine blk_put (cs := #[.int .i64 x8_1, .int .i64 t198, .int .i64 t201, .int .i64 0, .int .i64 0, .int .i64 0, .int .i64 0]) ?_ 3 _ rfl; (with_reducible repeat (first | refine blk_drewN ?_ _ | refine blk_drew ?_ | refine blk_alloc ?_ _)); refine blk_put (cs := #[.int .i64 x8_1, .int .i64 t198, .int .i64 0, .int .i64 0, .int .i64 0, .int .i64 0, .int .i64 0]) ?_ 2 _ rfl; (with_reducible repeat (first | refine blk_drewN ?_ _ | refine blk_drew ?_ | refine blk_alloc ?_ _)); exact BK200.out) k_ hk)); (case aO => exact (by (with_reducible repeat (first | apply Kd.R_alloc | apply Kd.R_drewN | apply Kd.R_drew)); exact Kd.R_mono (Kd.R_far (p := ⟨gb200, 6, none⟩) (Kd.R_far (p := ⟨gb200, 5, none⟩) (Kd.R_far (p := ⟨gb200, 4, none⟩) (Kd.R_far (p := ⟨gb200, 3, none⟩) (Kd.R_far (p := ⟨gb200, 2, none⟩) (Kd.R_mono HO_7.out (fun k_ hk => (⟨hk, hk.2⟩ : _ ∧ k_ ≠ gb200))) (fun _ hk => hk.2) (.int .i64 t201)) (fun _ hk => hk.2) (.int .i64 t202)) (fun _ hk => hk.2) (.int .i64 t203)) (fun _ hk => hk.2) (.int .i64 t204)) (fun _ hk => hk.2) (.int .i64 t205)) (fun _ hk => hk.1.2))); (case aS => exact (keep_size (w := w) (g := g) (row := none) (by repeat (first | (with_reducible first | exact HK.out | apply KeepBut.set_ | apply keep_drewN | apply keep_drew | apply keep_alloc | refine keep_far ?_ GW200.out _) | exact HK.out)))); (case aL => have := LMc11.out; omega); intro v208 w19 ho hb hg hat; rw [← Ny207.out] at ho; have n0_ := Aside0.mk (IsS41.grown (show IsS41 w0 _ g s0_0 t206 from by repeat (first | (with_reducible first | exact HI0.out | apply IsS41.alloc | apply IsS41.drewN | apply IsS41.drew | apply IsS41.set_1 | refine IsS41.far ?_ NB0_200.out _) | exact HI0.out)) hg (IsS41.own_ne HI0.out HO_7.out (by decide))); have n1_ := Aside0.mk (blk_grown (g := gb200) (o := .cells #[.int .i64 x8_1, .int .i64 t198, .int .i64 t201, .int .i64 t202, .int .i64 t203, .int .i64 t204, .int .i64 t205] 34 (0, 0)) (by (with_reducible repeat (first | refine blk_drewN ?_ _ | refine blk_drew ?_ | refine blk_alloc ?_ _)); refine blk_put (cs := #[.int .i64 x8_1, .int .i64 t198, .int .i64 t201, .int .i64 t202, .int .i64 t203, .int .i64 t204, .int .i64 0]) ?_ 6 _ rfl; (with_reducible repeat (first | refine blk_drewN ?_ _ | refine blk_drew ?_ | refine blk_alloc ?_ _)); refine blk_put (cs := #[.int .i64 x8_1, .int .i64 t198, .int .i64 t201, .int .i64 t202, .int .i64 t203, .int .i64 0, .int .i64 0]) ?_ 5 _ rfl; (with_reducible repeat (first | refine blk_drewN ?_ _ | refine blk_drew ?_ | refine blk_alloc ?_ _)); refine blk_put (cs := #[.int .i64 x8_1, .int .i64 t198, .int .i64 t201, .int .i64 t202, .int .i64 0, .int .i64 0, .int .i64 0]) ?_ 4 _ rfl; (with_reducible repeat (first | refine blk_drewN ?_ _ | refine blk_drew ?_ | refine blk_alloc ?_ _)); refine blk_put (cs := #[.int .i64 x8_1, .int .i64 t198, .int .i64 t201, .int .i64 0, .int .i64 0, .int .i64 0, .int .i64 0]) ?_ 3 _ rfl; (with_reducible repeat (first | refine blk_drewN ?_ _ | refine blk_drew ?_ | refine blk_alloc ?_ _)); refine blk_put (cs := #[.int .i64 x8_1, .int .i64 t198, .int .i64 0, .int .i64 0, .int .i64 0, .int .i64 0, .int .i64 0]) ?_ 2 _ rfl; (with_reducible repeat (first | refine blk_drewN ?_ _ | refine blk_drew ?_ | refine blk_alloc ?_ _)); exact BK200.out) hg (Kd.R_away HO_7.out (fun _ hk => hk.2))); have n2_ := Aside0.mk (below_weaken (by repeat (first | (with_reducible first | exact HB.out | apply below_alloc | apply pw_below_drewN | apply below_drew1 | refine below_set ?_ (IsS41.ge HI0.out) | refine below_set ?_ GE200.out) | exact HB.out)) HL.out hb); have n3_ := Aside0.mk (KeepBut.trans (by repeat (first | (with_reducible first | exact HK.out | apply KeepBut.set_ | apply keep_drewN | apply keep_drew | apply keep_alloc | refine keep_far ?_ GW200.out _) | exact HK.out)) (KeepBut.of_grown hg g) (Kd.R_base2 HO_7.out)); have n4_ := Aside0.mk (ho); clear HI0; clear BK200; clear HB; clear HK; clear HO_7; have HI0 := n0_; have BK200 := n1_; have HB := n2_; have HK := n3_; have HO209 := n4_; clear n0_ n1_ n2_ n3_ n4_; clear ho hb hg hat) | ((with_reducible refine gate_callee (f := 33) rfl ?_); refine goesL_ (some 39) rfl rfl Try.func33 (by kernel_rfl) rfl #[.pointer (some ⟨g, 0, none⟩), .int .i64 8] rfl (by (try simp only [List.map_toArray, List.map_cons, List.map_nil]); first | done | rfl | (simp only [List.length_drop, List.length_take]; rfl)) ?_; (with_reducible refine (mutoscopekeep_Tape_Next.calls k1 g s0_0 t206 8 t210 t211 w0 _ ?side1 ?side2 A12.out).mono ?_); (case side1 => repeat (first | (with_reducible first | exact HI0.out | apply IsS41.alloc | apply IsS41.drewN | apply IsS41.drew | apply IsS41.set_1 | refine IsS41.far ?_ NB0_200.out _) | exact HI0.out)); (case side2 => repeat (first | (with_reducible first | exact HB.out | apply below_alloc | apply pw_below_drewN | apply below_drew1 | refine below_set ?_ (IsS41.ge HI0.out) | refine below_set ?_ GE200.out) | exact HB.out)); rintro e w20 ⟨rfl, hi, hb, hk⟩; refine ⟨_, rfl, ?_⟩; have n0_ := Aside0.mk (KeepBut.blk hk (g' := gb200) (o := .cells #[.int .i64 x8_1, .int .i64 t198, .int .i64 t201, .int .i64 t202, .int .i64 t203, .int .i64 t204, .int .i64 t205] 34 (0, 0)) (by (with_reducible repeat (first | refine blk_drewN ?_ _ | refine blk_drew ?_ | refine blk_alloc ?_ _)); exact BK200.out) NB200_0.out (by simp)); have n1_ := Aside0.mk (Kd.R_mono (Kd.R_keep (IsS41.apart (show IsS41 w0 _ g s0_0 t206 from by repeat (first | (with_reducible first | exact HI0.out | apply IsS41.alloc | apply IsS41.drewN | apply IsS41.drew | apply IsS41.set_1 | refine IsS41.far ?_ NB0_200.out _) | exact HI0.out)) (by (with_reducible repeat (first | apply Kd.R_alloc | apply Kd.R_drewN | apply Kd.R_drew)); exact HO209.out) (by decide)) hk (fun _ h => h.2)) (fun _ h => h.1)); have n2_ := Aside0.mk (KeepBut.trans (by repeat (first | (with_reducible first | exact HK.out | apply KeepBut.set_ | apply keep_drewN | apply keep_drew | apply keep_alloc | refine keep_far ?_ GW200.out _) | exact HK.out)) hk (.inl rfl)); have n3_ := Aside0.mk (hb); have n4_ := Aside0.mk (hi); clear BK200; clear HO209; clear HK; clear HB; clear HI0; have BK200 := n0_; have HO209 := n1_; have HK := n2_; have HB := n3_; have HI0 := n4_; clear n0_ n1_ n2_ n3_ n4_; (try clear hb); (try clear hb2); (try clear hk); (try clear hi)))
     go_roundg k1
     case measure => have := HK1.out; omega
     case rel => exact ⟨(y207), (wrap64 ((wrap64 (x8_1 + 1)) + t210)), (wrap64 (x9_1 - 1)), (t211), (by first | rfl | (simp; done) | (simp [*]; done)), (by first | rfl | (simp; done) | (simp [*]; done)), H', ⟨by have := HK1.out; omega⟩, ⟨by (with_reducible repeat (first | apply Kd.R_alloc | apply Kd.R_drewN | apply Kd.R_drew)); exact Kd.R_mono HO209.out (fun _ hk => trivial)⟩, ⟨by repeat (first | (with_reducible first | exact HI0.out | apply IsS41.alloc | apply IsS41.drewN | apply IsS41.drew | apply IsS41.set_1 | refine IsS41.far ?_ NB0_200.out _) | exact HI0.out)⟩, ⟨by repeat (first | (with_reducible first | exact HK.out | apply KeepBut.set_ | apply keep_drewN | apply keep_drew | apply keep_alloc | refine keep_far ?_ GW200.out _) | exact HK.out)⟩, ⟨by repeat (first | (with_reducible first | exact HB.out | apply below_alloc | apply pw_below_drewN | apply below_drew1 | refine below_set ?_ (IsS41.ge HI0.out) | refine below_set ?_ GE200.out) | exact HB.out)⟩⟩
    ·rw [if_neg c11] at H
     exact absurd H (by simp)
   ·rw [if_neg c8] at H
    have c8b0 : decide (0 < x9_1) = false := decide_eq_false c8
    clear c8
    simp only [Option.some.injEq, Prod.mk.injEq] at H
    obtain ⟨rfl, rfl⟩ := H
    go_wp2
    go_ret
    exact ⟨_, by first | rfl | (simp [errW_none, errW_some] <;> rfl) | (simp [*, errW_none, errW_some] <;> rfl), by (with_reducible repeat (first | apply Kd.R_alloc | apply Kd.R_drewN | apply Kd.R_drew)); exact HO_7.out, by repeat (first | (with_reducible first | exact HI0.out | apply IsS41.alloc | apply IsS41.drewN | apply IsS41.drew | apply IsS41.set_1) | exact HI0.out), by repeat (first | (with_reducible first | exact HB.out | apply below_alloc | apply pw_below_drewN | apply below_drew1 | refine below_set ?_ (IsS41.ge HI0.out)) | exact HB.out), by repeat (first | (with_reducible first | exact HK.out | apply KeepBut.set_ | apply keep_drewN | apply keep_drew | apply keep_alloc) | exact HK.out)⟩
end Go.Proofs.Ytejnbjclcdmopaa.PM
end

section
namespace Go.Proofs.Ytejnbjclcdmopaa.PM
open Go.RowKit Go.Proofs.YtejnbjclcdmopaaW.PrintWords Go.Proofs.YtejnbjclcdmopaaW.PrintLast Go.Proofs.YtejnbjclcdmopaaW.PrintMore
attribute [local go_sem] max2_int min2_int max_two min_two max_three min_three max_four min_four
attribute [local go_sem] Go.Proofs.Ytejnbjclcdmopaa.MS.isSome_setCell
set_option linter.unusedVariables false
set_option linter.unusedSimpArgs false
def mutoscopelaw5_KeyMade.f (k : Nat) (l0 : List Int) : Option (Bool) := (mutoscopekeep_Tape_Keys.f k l0 0 (-5) 9).bind fun bt213 => ((key_Right.f k bt213.1).bind fun t217 => (if t217 = true then (if (bt213.1.length : Int) = 0 then ((mutoscopelaw5_known.f k).bind fun t218 => (some t218)) else ((some (([] : List (S34)) : List (S34))).bind fun y219 => (if y219.length + bt213.1.length < 2513169434916 then ((some (y219 ++ bt213.1 : List (S34))).bind fun y222 => (if 0 ≤ (wrap64 ((bt213.1.length : Int) - 1)) then (if (wrap64 ((bt213.1.length : Int) - 1)) < (bt213.1.length : Int) then ((some (([(⟨(rd_T34 bt213.1 (wrap64 ((bt213.1.length : Int) - 1))).f0, (rd_T34 bt213.1 (wrap64 ((bt213.1.length : Int) - 1))).f1, (rd_T34 bt213.1 (wrap64 ((bt213.1.length : Int) - 1))).f2, (⟨(rd_T34 bt213.1 (wrap64 ((bt213.1.length : Int) - 1))).f3.f0, (rd_T34 bt213.1 (wrap64 ((bt213.1.length : Int) - 1))).f3.f1, (rd_T34 bt213.1 (wrap64 ((bt213.1.length : Int) - 1))).f3.f2, (rd_T34 bt213.1 (wrap64 ((bt213.1.length : Int) - 1))).f3.f3⟩ : S23)⟩ : S34)] : List (S34)) : List (S34))).bind fun y226 => (if y222.length + y226.length < 2513169434916 then ((key_Right.f k (y222 ++ y226)).bind fun t232 => (if t232 = true then (none) else ((some (([(⟨(rd_T34 bt213.1 (wrap64 ((bt213.1.length : Int) - 1))).f0, (rd_T34 bt213.1 (wrap64 ((bt213.1.length : Int) - 1))).f1, (rd_T34 bt213.1 (wrap64 ((bt213.1.length : Int) - 1))).f2, (⟨(rd_T34 bt213.1 (wrap64 ((bt213.1.length : Int) - 1))).f3.f0, (rd_T34 bt213.1 (wrap64 ((bt213.1.length : Int) - 1))).f3.f1, (rd_T34 bt213.1 (wrap64 ((bt213.1.length : Int) - 1))).f3.f2, (rd_T34 bt213.1 (wrap64 ((bt213.1.length : Int) - 1))).f3.f3⟩ : S23)⟩ : S34)] : List (S34)) : List (S34))).bind fun y234 => (if y234.length + bt213.1.length < 2513169434916 then ((key_Right.f k (y234 ++ bt213.1)).bind fun t240 => (if t240 = true then (none) else ((mutoscopelaw5_known.f k).bind fun t241 => (some t241)))) else (none))))) else (none))) else (none)) else (none))) else (none)))) else (none)))
def mutoscopelaw5_KeyMade.T7 : Bool × List (List Nat × List Nat) := (true, [([], []), ([], []), ([0, 1], [0, 1]), ([], []), ([], []), ([4], [4]), ([5], [5]), ([3, 6], [3, 6]), ([7], [7]), ([8], [8]), ([2, 9, 2], [2, 9]), ([10, 10], [10]), ([11], [11]), ([12, 11], [12]), ([13], [13]), ([13], [13]), ([15, 13], [13, 15]), ([16, 13], [13, 16]), ([14, 17, 13], [13, 14, 17]), ([18, 13], [13, 18]), ([19, 13], [13, 19]), ([13], [13]), ([20, 21, 13, 13], [13, 20, 21]), ([22, 22, 13], [13, 22]), ([23, 13], [13, 23]), ([13, 24], [13, 24]), ([25, 23], [25]), ([26, 26], [26]), ([26, 27], [26, 27]), ([28, 27, 0, 1, 2, 3, 4, 5, 6, 7, 8, 9, 10, 11, 12, 13, 14, 15, 16, 17, 18, 19, 20, 21, 22, 23, 24, 25, 26, 27, 28], [28])])
def mutoscopelaw5_KeyMade.B7 : List Nat := [0, 0, 3, 0, 0, 16, 48, 120, 248, 504, 1023, 2047, 4095, 8191, 16383, 16383, 49151, 114687, 262143, 524287, 1048575, 16383, 4194303, 8388607, 16777215, 33554431, 67108863, 134217727, 268435455, 536870911]
theorem mutoscopelaw5_KeyMade.tab7 : rtab .any (opsOf Try.f7 7) = mutoscopelaw5_KeyMade.T7 := by kernel_rfl
theorem mutoscopelaw5_KeyMade.bits7 : waitsOk mutoscopelaw5_KeyMade.T7.2 mutoscopelaw5_KeyMade.B7 = true := by kernel_rfl
set_option maxHeartbeats 8000000 in
set_option maxRecDepth 100000 in
theorem mutoscopelaw5_KeyMade.calls (k : Nat) (A0 : Option Addr) (c0 : Nat) (l0 : List Int) (r : Bool) (w : World) (hr0 : Kd.C (Kd.int .i64) w A0 l0.length l0) (hc0 : l0.length ≤ c0) (h : mutoscopelaw5_KeyMade.f k l0 = some r) :
  Calls Try.prog 7 #[.slice A0 l0.length c0] w fun e w' => e = .returned (.bool r) ∧ Below w.heap.size w w' := by
 have hu41 := Try.underlying41
 have hu34 := Try.underlying34
 have HR0 := Aside0.mk hr0
 have HC0 := Aside0.mk hc0
 clear hr0 hc0
 have HB := Aside0.mk (Below.refl w.heap.size w)
 have H : ((mutoscopekeep_Tape_Keys.f k l0 0 (-5) 9).bind fun bt213 => ((key_Right.f k bt213.1).bind fun t217 => (if t217 = true then (if (bt213.1.length : Int) = 0 then ((mutoscopelaw5_known.f k).bind fun t218 => (some t218)) else ((some (([] : List (S34)) : List (S34))).bind fun y219 => (if y219.length + bt213.1.length < 2513169434916 then ((some (y219 ++ bt213.1 : List (S34))).bind fun y222 => (if 0 ≤ (wrap64 ((bt213.1.length : Int) - 1)) then (if (wrap64 ((bt213.1.length : Int) - 1)) < (bt213.1.length : Int) then ((some (([(⟨(rd_T34 bt213.1 (wrap64 ((bt213.1.length : Int) - 1))).f0, (rd_T34 bt213.1 (wrap64 ((bt213.1.length : Int) - 1))).f1, (rd_T34 bt213.1 (wrap64 ((bt213.1.length : Int) - 1))).f2, (⟨(rd_T34 bt213.1 (wrap64 ((bt213.1.length : Int) - 1))).f3.f0, (rd_T34 bt213.1 (wrap64 ((bt213.1.length : Int) - 1))).f3.f1, (rd_T34 bt213.1 (wrap64 ((bt213.1.length : Int) - 1))).f3.f2, (rd_T34 bt213.1 (wrap64 ((bt213.1.length : Int) - 1))).f3.f3⟩ : S23)⟩ : S34)] : List (S34)) : List (S34))).bind fun y226 => (if y222.length + y226.length < 2513169434916 then ((key_Right.f k (y222 ++ y226)).bind fun t232 => (if t232 = true then (none) else ((some (([(⟨(rd_T34 bt213.1 (wrap64 ((bt213.1.length : Int) - 1))).f0, (rd_T34 bt213.1 (wrap64 ((bt213.1.length : Int) - 1))).f1, (rd_T34 bt213.1 (wrap64 ((bt213.1.length : Int) - 1))).f2, (⟨(rd_T34 bt213.1 (wrap64 ((bt213.1.length : Int) - 1))).f3.f0, (rd_T34 bt213.1 (wrap64 ((bt213.1.length : Int) - 1))).f3.f1, (rd_T34 bt213.1 (wrap64 ((bt213.1.length : Int) - 1))).f3.f2, (rd_T34 bt213.1 (wrap64 ((bt213.1.length : Int) - 1))).f3.f3⟩ : S23)⟩ : S34)] : List (S34)) : List (S34))).bind fun y234 => (if y234.length + bt213.1.length < 2513169434916 then ((key_Right.f k (y234 ++ bt213.1)).bind fun t240 => (if t240 = true then (none) else ((mutoscopelaw5_known.f k).bind fun t241 => (some t241)))) else (none))))) else (none))) else (none)) else (none))) else (none)))) else (none)))) = some r := h
 clear h
 replace H := Option.bind_eq_some_iff.mp H
 obtain ⟨⟨t213, t216⟩, A20, H⟩ := H
 replace H : ((key_Right.f k t213).bind fun t217 => (if t217 = true then (if (t213.length : Int) = 0 then ((mutoscopelaw5_known.f k).bind fun t218 => (some t218)) else ((some (([] : List (S34)) : List (S34))).bind fun y219 => (if y219.length + t213.length < 2513169434916 then ((some (y219 ++ t213 : List (S34))).bind fun y222 => (if 0 ≤ (wrap64 ((t213.length : Int) - 1)) then (if (wrap64 ((t213.length : Int) - 1)) < (t213.length : Int) then ((some (([(⟨(rd_T34 t213 (wrap64 ((t213.length : Int) - 1))).f0, (rd_T34 t213 (wrap64 ((t213.length : Int) - 1))).f1, (rd_T34 t213 (wrap64 ((t213.length : Int) - 1))).f2, (⟨(rd_T34 t213 (wrap64 ((t213.length : Int) - 1))).f3.f0, (rd_T34 t213 (wrap64 ((t213.length : Int) - 1))).f3.f1, (rd_T34 t213 (wrap64 ((t213.length : Int) - 1))).f3.f2, (rd_T34 t213 (wrap64 ((t213.length : Int) - 1))).f3.f3⟩ : S23)⟩ : S34)] : List (S34)) : List (S34))).bind fun y226 => (if y222.length + y226.length < 2513169434916 then ((key_Right.f k (y222 ++ y226)).bind fun t232 => (if t232 = true then (none) else ((some (([(⟨(rd_T34 t213 (wrap64 ((t213.length : Int) - 1))).f0, (rd_T34 t213 (wrap64 ((t213.length : Int) - 1))).f1, (rd_T34 t213 (wrap64 ((t213.length : Int) - 1))).f2, (⟨(rd_T34 t213 (wrap64 ((t213.length : Int) - 1))).f3.f0, (rd_T34 t213 (wrap64 ((t213.length : Int) - 1))).f3.f1, (rd_T34 t213 (wrap64 ((t213.length : Int) - 1))).f3.f2, (rd_T34 t213 (wrap64 ((t213.length : Int) - 1))).f3.f3⟩ : S23)⟩ : S34)] : List (S34)) : List (S34))).bind fun y234 => (if y234.length + t213.length < 2513169434916 then ((key_Right.f k (y234 ++ t213)).bind fun t240 => (if t240 = true then (none) else ((mutoscopelaw5_known.f k).bind fun t241 => (some t241)))) else (none))))) else (none))) else (none)) else (none))) else (none)))) else (none))) = some r := H
 have A2 := Aside0.mk A20
 clear A20
 replace H := Option.bind_eq_some_iff.mp H
 obtain ⟨t217, A30, H⟩ := H
 replace H : (if t217 = true then (if (t213.length : Int) = 0 then ((mutoscopelaw5_known.f k).bind fun t218 => (some t218)) else ((some (([] : List (S34)) : List (S34))).bind fun y219 => (if y219.length + t213.length < 2513169434916 then ((some (y219 ++ t213 : List (S34))).bind fun y222 => (if 0 ≤ (wrap64 ((t213.length : Int) - 1)) then (if (wrap64 ((t213.length : Int) - 1)) < (t213.length : Int) then ((some (([(⟨(rd_T34 t213 (wrap64 ((t213.length : Int) - 1))).f0, (rd_T34 t213 (wrap64 ((t213.length : Int) - 1))).f1, (rd_T34 t213 (wrap64 ((t213.length : Int) - 1))).f2, (⟨(rd_T34 t213 (wrap64 ((t213.length : Int) - 1))).f3.f0, (rd_T34 t213 (wrap64 ((t213.length : Int) - 1))).f3.f1, (rd_T34 t213 (wrap64 ((t213.length : Int) - 1))).f3.f2, (rd_T34 t213 (wrap64 ((t213.length : Int) - 1))).f3.f3⟩ : S23)⟩ : S34)] : List (S34)) : List (S34))).bind fun y226 => (if y222.length + y226.length < 2513169434916 then ((key_Right.f k (y222 ++ y226)).bind fun t232 => (if t232 = true then (none) else ((some (([(⟨(rd_T34 t213 (wrap64 ((t213.length : Int) - 1))).f0, (rd_T34 t213 (wrap64 ((t213.length : Int) - 1))).f1, (rd_T34 t213 (wrap64 ((t213.length : Int) - 1))).f2, (⟨(rd_T34 t213 (wrap64 ((t213.length : Int) - 1))).f3.f0, (rd_T34 t213 (wrap64 ((t213.length : Int) - 1))).f3.f1, (rd_T34 t213 (wrap64 ((t213.length : Int) - 1))).f3.f2, (rd_T34 t213 (wrap64 ((t213.length : Int) - 1))).f3.f3⟩ : S23)⟩ : S34)] : List (S34)) : List (S34))).bind fun y234 => (if y234.length + t213.length < 2513169434916 then ((key_Right.f k (y234 ++ t213)).bind fun t240 => (if t240 = true then (none) else ((mutoscopelaw5_known.f k).bind fun t241 => (some t241)))) else (none))))) else (none))) else (none)) else (none))) else (none)))) else (none)) = some r := H
 have A3 := Aside0.mk A30
 clear A30
 by_cases c4 : t217 = true
 ·subst c4
  have H1 : (if (t213.length : Int) = 0 then ((mutoscopelaw5_known.f k).bind fun t218 => (some t218)) else ((some (([] : List (S34)) : List (S34))).bind fun y219 => (if y219.length + t213.length < 2513169434916 then ((some (y219 ++ t213 : List (S34))).bind fun y222 => (if 0 ≤ (wrap64 ((t213.length : Int) - 1)) then (if (wrap64 ((t213.length : Int) - 1)) < (t213.length : Int) then ((some (([(⟨(rd_T34 t213 (wrap64 ((t213.length : Int) - 1))).f0, (rd_T34 t213 (wrap64 ((t213.length : Int) - 1))).f1, (rd_T34 t213 (wrap64 ((t213.length : Int) - 1))).f2, (⟨(rd_T34 t213 (wrap64 ((t213.length : Int) - 1))).f3.f0, (rd_T34 t213 (wrap64 ((t213.length : Int) - 1))).f3.f1, (rd_T34 t213 (wrap64 ((t213.length : Int) - 1))).f3.f2, (rd_T34 t213 (wrap64 ((t213.length : Int) - 1))).f3.f3⟩ : S23)⟩ : S34)] : List (S34)) : List (S34))).bind fun y226 => (if y222.length + y226.length < 2513169434916 then ((key_Right.f k (y222 ++ y226)).bind fun t232 => (if t232 = true then (none) else ((some (([(⟨(rd_T34 t213 (wrap64 ((t213.length : Int) - 1))).f0, (rd_T34 t213 (wrap64 ((t213.length : Int) - 1))).f1, (rd_T34 t213 (wrap64 ((t213.length : Int) - 1))).f2, (⟨(rd_T34 t213 (wrap64 ((t213.length : Int) - 1))).f3.f0, (rd_T34 t213 (wrap64 ((t213.length : Int) - 1))).f3.f1, (rd_T34 t213 (wrap64 ((t213.length : Int) - 1))).f3.f2, (rd_T34 t213 (wrap64 ((t213.length : Int) - 1))).f3.f3⟩ : S23)⟩ : S34)] : List (S34)) : List (S34))).bind fun y234 => (if y234.length + t213.length < 2513169434916 then ((key_Right.f k (y234 ++ t213)).bind fun t240 => (if t240 = true then (none) else ((mutoscopelaw5_known.f k).bind fun t241 => (some t241)))) else (none))))) else (none))) else (none)) else (none))) else (none)))) = some r := by rw [if_pos rfl] at H; exact H
  clear H
  have H := H1
  clear H1
  by_cases c5 : (t213.length : Int) = 0
  ·rw [if_pos c5] at H
   have c5b0 : ((t213.length : Int) == 0) = true := beq_iff_eq.mpr c5
   have c5b1 : ((t213.length : Int) != 0) = false := bne_eq_false_iff_eq.mpr c5
   clear c5
   replace H := Option.bind_eq_some_iff.mp H
   obtain ⟨t218, A60, H⟩ := H
   replace H : (some t218) = some r := H
   have A6 := Aside0.mk A60
   clear A60
   obtain rfl := Option.some.inj H
   go_enter Try.func7, Try.ntmps7
   go_wp2_with (first | ((with_reducible refine gate_dst (N := 7) rfl ?_); (try (refine gate_guard (by rfl) ?_; dsimp only)); refine box_event ?hg (N := 7) ?hd (cs := #[.slice A0 l0.length c0, .int .i64 0]) (t := 41) ?hr ?_; (case hd => rfl); (case hg => rfl); (case hr => first | (go_simp; done) | (go_simp; rfl)); intro gb212 hg w7 hbox hb; have n0_ := Aside0.mk (below_step (by repeat (first | (with_reducible first | exact HB.out | apply below_alloc | apply pw_below_drewN | apply below_drew1) | exact HB.out)) hb); have n1_ := Aside0.mk ((show IsS41 w w7 gb212 l0 0 from ⟨_, _, hbox, (by rw [hg]; exact (below_size (by repeat (first | (with_reducible first | exact HB.out | apply below_alloc | apply pw_below_drewN | apply below_drew1) | exact HB.out))) : w.heap.size ≤ gb212), HR0.out⟩)); clear HB; have HB := n0_; have HI212 := n1_; clear n0_ n1_; clear hb hbox hg) | ((with_reducible refine gate_callee (f := 21) rfl ?_); refine goesL_ (some 9) rfl rfl Try.func21 (by kernel_rfl) rfl #[.pointer (some ⟨gb212, 0, none⟩), .int .i64 (-5), .int .i64 9] rfl (by (try simp only [List.map_toArray, List.map_cons, List.map_nil]); first | done | rfl | (simp only [List.length_drop, List.length_take]; rfl)) ?_; (with_reducible refine (mutoscopekeep_Tape_Keys.calls k gb212 l0 0 (-5) 9 t213 t216 w _ ?side1 ?side2 A2.out).mono ?_); (case side1 => repeat (first | (with_reducible first | exact HI212.out | apply IsS41.alloc | apply IsS41.drewN | apply IsS41.drew | apply IsS41.set_1) | exact HI212.out)); (case side2 => repeat (first | (with_reducible first | exact HB.out | apply below_alloc | apply pw_below_drewN | apply below_drew1 | refine below_set ?_ (IsS41.ge HI212.out)) | exact HB.out)); rintro e w8 ⟨v214, rfl, ho0, hi, hb, hk⟩; refine ⟨_, rfl, ?_⟩; have n0_ := Aside0.mk (Kd.R_lower ho0 (below_size (by repeat (first | (with_reducible first | exact HB.out | apply below_alloc | apply pw_below_drewN | apply below_drew1 | refine below_set ?_ (IsS41.ge HI212.out)) | exact HB.out)))); have n1_ := Aside0.mk (hb); have n2_ := Aside0.mk (hi); clear HB; clear HI212; have HO215 := n0_; have HB := n1_; have HI212 := n2_; clear n0_ n1_ n2_; (try clear hb); (try clear hb2); (try clear hk); (try clear hi); (try clear ho0); obtain ⟨Ao9, co9, eo9⟩ := Kd.R_slice HO215.out; subst eo9) | ((with_reducible refine gate_callee (f := 22) rfl ?_); refine goesL_ (some 11) rfl rfl Try.func22 (by kernel_rfl) rfl #[.slice Ao9 t213.length co9] rfl (by (try simp only [List.map_toArray, List.map_cons, List.map_nil]); first | done | rfl | (simp only [List.length_drop, List.length_take]; rfl)) ?_; (with_reducible refine (key_Right.calls k _ _ t213 true _ ?side1 ?side2 A3.out).mono ?_); (case side1 => repeat (first | exact (Kd.R_reads' HO215.out).2.2 | (with_reducible refine Kd.C_alloc ?_ _) | (with_reducible refine Kd.C_drewN ?_ _) | (with_reducible refine Kd.C_drew ?_))); (case side2 => exact (Kd.R_reads' HO215.out).2.1); rintro e w10 ⟨rfl, hb⟩; refine ⟨_, rfl, ?_⟩; have n0_ := Aside0.mk (Kd.R_below (by (with_reducible repeat (first | apply Kd.R_alloc | apply Kd.R_drewN | apply Kd.R_drew)); exact HO215.out) hb); have n1_ := Aside0.mk (IsS41.below (by repeat (first | (with_reducible first | exact HI212.out | apply IsS41.alloc | apply IsS41.drewN | apply IsS41.drew | apply IsS41.set_1) | exact HI212.out)) hb); have n2_ := Aside0.mk (below_step (by repeat (first | (with_reducible first | exact HB.out | apply below_alloc | apply pw_below_drewN | apply below_drew1 | refine below_set ?_ (IsS41.ge HI212.out)) | exact HB.out)) hb); clear HO215; clear HI212; clear HB; have HO215 := n0_; have HI212 := n1_; have HB := n2_; clear n0_ n1_ n2_; (try clear hb); (try clear hb2); (try clear hk); (try clear hi)) | ((with_reducible refine gate_callee (f := 20) rfl ?_); refine goesL_ (some 16) rfl rfl Try.func20 (by kernel_rfl) rfl #[] rfl (by (try simp only [List.map_toArray, List.map_cons, List.map_nil]); first | done | rfl | (simp only [List.length_drop, List.length_take]; rfl)) ?_; (with_reducible refine (mutoscopelaw5_known.calls k  t218 _ A6.out).mono ?_); rintro e w11 ⟨rfl, hb⟩; refine ⟨_, rfl, ?_⟩; have n0_ := Aside0.mk (Kd.R_below (by (with_reducible repeat (first | apply Kd.R_alloc | apply Kd.R_drewN | apply Kd.R_drew)); exact HO215.out) hb); have n1_ := Aside0.mk (IsS41.below (by repeat (first | (with_reducible first | exact HI212.out | apply IsS41.alloc | apply IsS41.drewN | apply IsS41.drew | apply IsS41.set_1) | exact HI212.out)) hb); have n2_ := Aside0.mk (below_step (by repeat (first | (with_reducible first | exact HB.out | apply below_alloc | apply pw_below_drewN | apply below_drew1 | refine below_set ?_ (IsS41.ge HI212.out)) | exact HB.out)) hb); clear HO215; clear HI212; clear HB; have HO215 := n0_; have HI212 := n1_; have HB := n2_; clear n0_ n1_ n2_; (try clear hb); (try clear hb2); (try clear hk); (try clear hi)))
   go_ret
   exact ⟨by first | rfl | (simp [errW_none, errW_some] <;> rfl) | (simp [*, errW_none, errW_some] <;> rfl), by repeat (first | (with_reducible first | exact HB.out | apply below_alloc | apply pw_below_drewN | apply below_drew1 | refine below_set ?_ (IsS41.ge HI212.out)) | exact HB.out)⟩
  ·rw [if_neg c5] at H
   have c5b0 : ((t213.length : Int) == 0) = false := beq_eq_false_iff_ne.mpr c5
   have c5b1 : ((t213.length : Int) != 0) = true := bne_iff_ne.mpr c5
   have c5b2 : ¬ (t213 = []) := fun h_ => c5 (by rw [h_]; rfl)
   obtain ⟨y219, hy219⟩ : ∃ y_ : List (S34), y_ = (([] : List (S34))) := ⟨_, rfl⟩
   replace H : (if y219.length + t213.length < 2513169434916 then ((some (y219 ++ t213 : List (S34))).bind fun y222 => (if 0 ≤ (wrap64 ((t213.length : Int) - 1)) then (if (wrap64 ((t213.length : Int) - 1)) < (t213.length : Int) then ((some (([(⟨(rd_T34 t213 (wrap64 ((t213.length : Int) - 1))).f0, (rd_T34 t213 (wrap64 ((t213.length : Int) - 1))).f1, (rd_T34 t213 (wrap64 ((t213.length : Int) - 1))).f2, (⟨(rd_T34 t213 (wrap64 ((t213.length : Int) - 1))).f3.f0, (rd_T34 t213 (wrap64 ((t213.length : Int) - 1))).f3.f1, (rd_T34 t213 (wrap64 ((t213.length : Int) - 1))).f3.f2, (rd_T34 t213 (wrap64 ((t213.length : Int) - 1))).f3.f3⟩ : S23)⟩ : S34)] : List (S34)) : List (S34))).bind fun y226 => (if y222.length + y226.length < 2513169434916 then ((key_Right.f k (y222 ++ y226)).bind fun t232 => (if t232 = true then (none) else ((some (([(⟨(rd_T34 t213 (wrap64 ((t213.length : Int) - 1))).f0, (rd_T34 t213 (wrap64 ((t213.length : Int) - 1))).f1, (rd_T34 t213 (wrap64 ((t213.length : Int) - 1))).f2, (⟨(rd_T34 t213 (wrap64 ((t213.length : Int) - 1))).f3.f0, (rd_T34 t213 (wrap64 ((t213.length : Int) - 1))).f3.f1, (rd_T34 t213 (wrap64 ((t213.length : Int) - 1))).f3.f2, (rd_T34 t213 (wrap64 ((t213.length : Int) - 1))).f3.f3⟩ : S23)⟩ : S34)] : List (S34)) : List (S34))).bind fun y234 => (if y234.length + t213.length < 2513169434916 then ((key_Right.f k (y234 ++ t213)).bind fun t240 => (if t240 = true then (none) else ((mutoscopelaw5_known.f k).bind fun t241 => (some t241)))) else (none))))) else (none))) else (none)) else (none))) else (none)) = some r := by first | (rw [hy219]; with_reducible exact H) | (have H2_ := (Option.bind_some _ _).symm.trans H; rw [hy219]; with_reducible exact H2_) | (have H2_ := (Option.bind_some _ _).symm.trans H; with_reducible exact H2_) | with_reducible exact H | (rw [hy219]; exact H) | exact H
   have Ny219 := Aside0.mk hy219
   clear hy219
   by_cases c12 : y219.length + t213.length < 2513169434916
   ·rw [if_pos c12] at H
    have LMc12 := Aside0.mk c12
    clear c12
    obtain ⟨y222, hy222⟩ : ∃ y_ : List (S34), y_ = (y219 ++ t213) := ⟨_, rfl⟩
    replace H : (if 0 ≤ (wrap64 ((t213.length : Int) - 1)) then (if (wrap64 ((t213.length : Int) - 1)) < (t213.length : Int) then ((some (([(⟨(rd_T34 t213 (wrap64 ((t213.length : Int) - 1))).f0, (rd_T34 t213 (wrap64 ((t213.length : Int) - 1))).f1, (rd_T34 t213 (wrap64 ((t213.length : Int) - 1))).f2, (⟨(rd_T34 t213 (wrap64 ((t213.length : Int) - 1))).f3.f0, (rd_T34 t213 (wrap64 ((t213.length : Int) - 1))).f3.f1, (rd_T34 t213 (wrap64 ((t213.length : Int) - 1))).f3.f2, (rd_T34 t213 (wrap64 ((t213.length : Int) - 1))).f3.f3⟩ : S23)⟩ : S34)] : List (S34)) : List (S34))).bind fun y226 => (if y222.length + y226.length < 2513169434916 then ((key_Right.f k (y222 ++ y226)).bind fun t232 => (if t232 = true then (none) else ((some (([(⟨(rd_T34 t213 (wrap64 ((t213.length : Int) - 1))).f0, (rd_T34 t213 (wrap64 ((t213.length : Int) - 1))).f1, (rd_T34 t213 (wrap64 ((t213.length : Int) - 1))).f2, (⟨(rd_T34 t213 (wrap64 ((t213.length : Int) - 1))).f3.f0, (rd_T34 t213 (wrap64 ((t213.length : Int) - 1))).f3.f1, (rd_T34 t213 (wrap64 ((t213.length : Int) - 1))).f3.f2, (rd_T34 t213 (wrap64 ((t213.length : Int) - 1))).f3.f3⟩ : S23)⟩ : S34)] : List (S34)) : List (S34))).bind fun y234 => (if y234.length + t213.length < 2513169434916 then ((key_Right.f k (y234 ++ t213)).bind fun t240 => (if t240 = true then (none) else ((mutoscopelaw5_known.f k).bind fun t241 => (some t241)))) else (none))))) else (none))) else (none)) else (none)) = some r := by first | (rw [hy222]; with_reducible exact H) | (have H2_ := (Option.bind_some _ _).symm.trans H; rw [hy222]; with_reducible exact H2_) | (have H2_ := (Option.bind_some _ _).symm.trans H; with_reducible exact H2_) | with_reducible exact H | (rw [hy222]; exact H) | exact H
    have Ny222 := Aside0.mk hy222
    clear hy222
    obtain ⟨ji13, hji13⟩ : ∃ j_ : Int, (wrap64 ((t213.length : Int) - 1)) = j_ := ⟨_, rfl⟩
    replace H : (if 0 ≤ (ji13) then (if (ji13) < (t213.length : Int) then ((some (([(⟨(rd_T34 t213 (ji13)).f0, (rd_T34 t213 (ji13)).f1, (rd_T34 t213 (ji13)).f2, (⟨(rd_T34 t213 (ji13)).f3.f0, (rd_T34 t213 (ji13)).f3.f1, (rd_T34 t213 (ji13)).f3.f2, (rd_T34 t213 (ji13)).f3.f3⟩ : S23)⟩ : S34)] : List (S34)) : List (S34))).bind fun y226 => (if y222.length + y226.length < 2513169434916 then ((key_Right.f k (y222 ++ y226)).bind fun t232 => (if t232 = true then (none) else ((some (([(⟨(rd_T34 t213 (ji13)).f0, (rd_T34 t213 (ji13)).f1, (rd_T34 t213 (ji13)).f2, (⟨(rd_T34 t213 (ji13)).f3.f0, (rd_T34 t213 (ji13)).f3.f1, (rd_T34 t213 (ji13)).f3.f2, (rd_T34 t213 (ji13)).f3.f3⟩ : S23)⟩ : S34)] : List (S34)) : List (S34))).bind fun y234 => (if y234.length + t213.length < 2513169434916 then ((key_Right.f k (y234 ++ t213)).bind fun t240 => (if t240 = true then (none) else ((mutoscopelaw5_known.f k).bind fun t241 => (some t241)))) else (none))))) else (none))) else (none)) else (none)) = some r := by first | (rw [hji13] at H; exact H) | (simp only [hji13] at H ⊢; exact H)
    (try rw [hji13] at A2)
    (try rw [hji13] at A3)
    have hji13w : (IntKind.i64.wrap ((t213.length : Int) - 1)) = ji13 := (i64_w _).trans hji13
    by_cases c14 : 0 ≤ (ji13)
    ·rw [if_pos c14] at H
     have c14b0 : decide (0 ≤ (ji13)) = true := decide_eq_true c14
     clear c14
     by_cases c15 : (ji13) < (t213.length : Int)
     ·rw [if_pos c15] at H
      have c15b0 : decide ((ji13) < (t213.length : Int)) = true := decide_eq_true c15
      clear c15
      obtain ⟨y226, hy226⟩ : ∃ y_ : List (S34), y_ = (([(⟨(rd_T34 t213 (ji13)).f0, (rd_T34 t213 (ji13)).f1, (rd_T34 t213 (ji13)).f2, (⟨(rd_T34 t213 (ji13)).f3.f0, (rd_T34 t213 (ji13)).f3.f1, (rd_T34 t213 (ji13)).f3.f2, (rd_T34 t213 (ji13)).f3.f3⟩ : S23)⟩ : S34)] : List (S34))) := ⟨_, rfl⟩
      replace H : (if y222.length + y226.length < 2513169434916 then ((key_Right.f k (y222 ++ y226)).bind fun t232 => (if t232 = true then (none) else ((some (([(⟨(rd_T34 t213 (ji13)).f0, (rd_T34 t213 (ji13)).f1, (rd_T34 t213 (ji13)).f2, (⟨(rd_T34 t213 (ji13)).f3.f0, (rd_T34 t213 (ji13)).f3.f1, (rd_T34 t213 (ji13)).f3.f2, (rd_T34 t213 (ji13)).f3.f3⟩ : S23)⟩ : S34)] : List (S34)) : List (S34))).bind fun y234 => (if y234.length + t213.length < 2513169434916 then ((key_Right.f k (y234 ++ t213)).bind fun t240 => (if t240 = true then (none) else ((mutoscopelaw5_known.f k).bind fun t241 => (some t241)))) else (none))))) else (none)) = some r := by first | (rw [hy226]; with_reducible exact H) | (have H2_ := (Option.bind_some _ _).symm.trans H; rw [hy226]; with_reducible exact H2_) | (have H2_ := (Option.bind_some _ _).symm.trans H; with_reducible exact H2_) | with_reducible exact H | (rw [hy226]; exact H) | exact H
      have Ny226 := Aside0.mk hy226
      clear hy226
      by_cases c16 : y222.length + y226.length < 2513169434916
      ·rw [if_pos c16] at H
       have LMc16 := Aside0.mk c16
       clear c16
       obtain ⟨y229, hy229⟩ : ∃ y_ : List (S34), y_ = (y222 ++ y226) := ⟨_, rfl⟩
       replace H : ((key_Right.f k y229).bind fun t232 => (if t232 = true then (none) else ((some (([(⟨(rd_T34 t213 (ji13)).f0, (rd_T34 t213 (ji13)).f1, (rd_T34 t213 (ji13)).f2, (⟨(rd_T34 t213 (ji13)).f3.f0, (rd_T34 t213 (ji13)).f3.f1, (rd_T34 t213 (ji13)).f3.f2, (rd_T34 t213 (ji13)).f3.f3⟩ : S23)⟩ : S34)] : List (S34)) : List (S34))).bind fun y234 => (if y234.length + t213.length < 2513169434916 then ((key_Right.f k (y234 ++ t213)).bind fun t240 => (if t240 = true then (none) else ((mutoscopelaw5_known.f k).bind fun t241 => (some t241)))) else (none))))) = some r := by first | (rw [hy229]; with_reducible exact H) | (have H2_ := (Option.bind_some _ _).symm.trans H; rw [hy229]; with_reducible exact H2_) | (have H2_ := (Option.bind_some _ _).symm.trans H; with_reducible exact H2_) | with_reducible exact H | (rw [hy229]; exact H) | exact H
       have Ny229 := Aside0.mk hy229
       clear hy229
       replace H := Option.bind_eq_some_iff.mp H
       obtain ⟨t232, A170, H⟩ := H
       replace H : (if t232 = true then (none) else ((some (([(⟨(rd_T34 t213 (ji13)).f0, (rd_T34 t213 (ji13)).f1, (rd_T34 t213 (ji13)).f2, (⟨(rd_T34 t213 (ji13)).f3.f0, (rd_T34 t213 (ji13)).f3.f1, (rd_T34 t213 (ji13)).f3.f2, (rd_T34 t213 (ji13)).f3.f3⟩ : S23)⟩ : S34)] : List (S34)) : List (S34))).bind fun y234 => (if y234.length + t213.length < 2513169434916 then ((key_Right.f k (y234 ++ t213)).bind fun t240 => (if t240 = true then (none) else ((mutoscopelaw5_known.f k).bind fun t241 => (some t241)))) else (none)))) = some r := H
       have A17 := Aside0.mk A170
       clear A170
       by_cases c18 : t232 = true
       ·subst c18
        have H1 : (none) = some r := by rw [if_pos rfl] at H; exact H
        clear H
        have H := H1
        clear H1
        exact absurd H (by simp)
       ·replace c18 := Bool.eq_false_iff.mpr c18
        subst c18
        have H1 : ((some (([(⟨(rd_T34 t213 (ji13)).f0, (rd_T34 t213 (ji13)).f1, (rd_T34 t213 (ji13)).f2, (⟨(rd_T34 t213 (ji13)).f3.f0, (rd_T34 t213 (ji13)).f3.f1, (rd_T34 t213 (ji13)).f3.f2, (rd_T34 t213 (ji13)).f3.f3⟩ : S23)⟩ : S34)] : List (S34)) : List (S34))).bind fun y234 => (if y234.length + t213.length < 2513169434916 then ((key_Right.f k (y234 ++ t213)).bind fun t240 => (if t240 = true then (none) else ((mutoscopelaw5_known.f k).bind fun t241 => (some t241)))) else (none))) = some r := by rw [if_neg (show ¬ (false = true) by decide)] at H; exact H
        clear H
        have H := H1
        clear H1
        obtain ⟨y234, hy234⟩ : ∃ y_ : List (S34), y_ = (([(⟨(rd_T34 t213 (ji13)).f0, (rd_T34 t213 (ji13)).f1, (rd_T34 t213 (ji13)).f2, (⟨(rd_T34 t213 (ji13)).f3.f0, (rd_T34 t213 (ji13)).f3.f1, (rd_T34 t213 (ji13)).f3.f2, (rd_T34 t213 (ji13)).f3.f3⟩ : S23)⟩ : S34)] : List (S34))) := ⟨_, rfl⟩
        replace H : (if y234.length + t213.length < 2513169434916 then ((key_Right.f k (y234 ++ t213)).bind fun t240 => (if t240 = true then (none) else ((mutoscopelaw5_known.f k).bind fun t241 => (some t241)))) else (none)) = some r := by first | (rw [hy234]; with_reducible exact H) | (have H2_ := (Option.bind_some _ _).symm.trans H; rw [hy234]; with_reducible exact H2_) | (have H2_ := (Option.bind_some _ _).symm.trans H; with_reducible exact H2_) | with_reducible exact H | (rw [hy234]; exact H) | exact H
        have Ny234 := Aside0.mk hy234
        clear hy234
        by_cases c19 : y234.length + t213.length < 2513169434916
        ·rw [if_pos c19] at H
         have LMc19 := Aside0.mk c19
         clear c19
         obtain ⟨y237, hy237⟩ : ∃ y_ : List (S34), y_ = (y234 ++ t213) := ⟨_, rfl⟩
         replace H : ((key_Right.f k y237).bind fun t240 => (if t240 = true then (none) else ((mutoscopelaw5_known.f k).bind fun t241 => (some t241)))) = some r := by first | (rw [hy237]; with_reducible exact H) | (have H2_ := (Option.bind_some _ _).symm.trans H; rw [hy237]; with_reducible exact H2_) | (have H2_ := (Option.bind_some _ _).symm.trans H; with_reducible exact H2_) | with_reducible exact H | (rw [hy237]; exact H) | exact H
         have Ny237 := Aside0.mk hy237
         clear hy237
         replace H := Option.bind_eq_some_iff.mp H
         obtain ⟨t240, A200, H⟩ := H
         replace H : (if t240 = true then (none) else ((mutoscopelaw5_known.f k).bind fun t241 => (some t241))) = some r := H
         have A20 := Aside0.mk A200
         clear A200
         by_cases c21 : t240 = true
         ·subst c21
          have H1 : (none) = some r := by rw [if_pos rfl] at H; exact H
          clear H
          have H := H1
          clear H1
          exact absurd H (by simp)
         ·replace c21 := Bool.eq_false_iff.mpr c21
          subst c21
          have H1 : ((mutoscopelaw5_known.f k).bind fun t241 => (some t241)) = some r := by rw [if_neg (show ¬ (false = true) by decide)] at H; exact H
          clear H
          have H := H1
          clear H1
          replace H := Option.bind_eq_some_iff.mp H
          obtain ⟨t241, A220, H⟩ := H
          replace H : (some t241) = some r := H
          have A22 := Aside0.mk A220
          clear A220
          obtain rfl := Option.some.inj H
          go_enter Try.func7, Try.ntmps7
          try go_wp2_with (first | ((with_reducible refine gate_dst (N := 7) rfl ?_); (try (refine gate_guard (by rfl) ?_; dsimp only)); refine box_event ?hg (N := 7) ?hd (cs := #[.slice A0 l0.length c0, .int .i64 0]) (t := 41) ?hr ?_; (case hd => rfl); (case hg => rfl); (case hr => first | (go_simp; done) | (go_simp; rfl)); intro gb212 hg w23 hbox hb; have n0_ := Aside0.mk (below_step (by repeat (first | (with_reducible first | exact HB.out | apply below_alloc | apply pw_below_drewN | apply below_drew1) | exact HB.out)) hb); have n1_ := Aside0.mk ((show IsS41 w w23 gb212 l0 0 from ⟨_, _, hbox, (by rw [hg]; exact (below_size (by repeat (first | (with_reducible first | exact HB.out | apply below_alloc | apply pw_below_drewN | apply below_drew1) | exact HB.out))) : w.heap.size ≤ gb212), HR0.out⟩)); clear HB; have HB := n0_; have HI212 := n1_; clear n0_ n1_; clear hb hbox hg) | ((with_reducible refine gate_callee (f := 21) rfl ?_); refine goesL_ (some 9) rfl rfl Try.func21 (by kernel_rfl) rfl #[.pointer (some ⟨gb212, 0, none⟩), .int .i64 (-5), .int .i64 9] rfl (by (try simp only [List.map_toArray, List.map_cons, List.map_nil]); first | done | rfl | (simp only [List.length_drop, List.length_take]; rfl)) ?_; (with_reducible refine (mutoscopekeep_Tape_Keys.calls k gb212 l0 0 (-5) 9 t213 t216 w _ ?side1 ?side2 A2.out).mono ?_); (case side1 => repeat (first | (with_reducible first | exact HI212.out | apply IsS41.alloc | apply IsS41.drewN | apply IsS41.drew | apply IsS41.set_1) | exact HI212.out)); (case side2 => repeat (first | (with_reducible first | exact HB.out | apply below_alloc | apply pw_below_drewN | apply below_drew1 | refine below_set ?_ (IsS41.ge HI212.out)) | exact HB.out)); rintro e w24 ⟨v214, rfl, ho0, hi, hb, hk⟩; refine ⟨_, rfl, ?_⟩; have n0_ := Aside0.mk (Kd.R_lower ho0 (below_size (by repeat (first | (with_reducible first | exact HB.out | apply below_alloc | apply pw_below_drewN | apply below_drew1 | refine below_set ?_ (IsS41.ge HI212.out)) | exact HB.out)))); have n1_ := Aside0.mk (hb); have n2_ := Aside0.mk (hi); clear HB; clear HI212; have HO215 := n0_; have HB := n1_; have HI212 := n2_; clear n0_ n1_ n2_; (try clear hb); (try clear hb2); (try clear hk); (try clear hi); (try clear ho0); obtain ⟨Ao25, co25, eo25⟩ := Kd.R_slice HO215.out; subst eo25) | ((with_reducible refine gate_callee (f := 22) rfl ?_); refine goesL_ (some 11) rfl rfl Try.func22 (by kernel_rfl) rfl #[.slice Ao25 t213.length co25] rfl (by (try simp only [List.map_toArray, List.map_cons, List.map_nil]); first | done | rfl | (simp only [List.length_drop, List.length_take]; rfl)) ?_; (with_reducible refine (key_Right.calls k _ _ t213 true _ ?side1 ?side2 A3.out).mono ?_); (case side1 => repeat (first | exact (Kd.R_reads' HO215.out).2.2 | (with_reducible refine Kd.C_alloc ?_ _) | (with_reducible refine Kd.C_drewN ?_ _) | (with_reducible refine Kd.C_drew ?_))); (case side2 => exact (Kd.R_reads' HO215.out).2.1); rintro e w26 ⟨rfl, hb⟩; refine ⟨_, rfl, ?_⟩; have n0_ := Aside0.mk (Kd.R_below (by (with_reducible repeat (first | apply Kd.R_alloc | apply Kd.R_drewN | apply Kd.R_drew)); exact HO215.out) hb); have n1_ := Aside0.mk (IsS41.below (by repeat (first | (with_reducible first | exact HI212.out | apply IsS41.alloc | apply IsS41.drewN | apply IsS41.drew | apply IsS41.set_1) | exact HI212.out)) hb); have n2_ := Aside0.mk (below_step (by repeat (first | (with_reducible first | exact HB.out | apply below_alloc | apply pw_below_drewN | apply below_drew1 | refine below_set ?_ (IsS41.ge HI212.out)) | exact HB.out)) hb); clear HO215; clear HI212; clear HB; have HO215 := n0_; have HI212 := n1_; have HB := n2_; clear n0_ n1_ n2_; (try clear hb); (try clear hb2); (try clear hk); (try clear hi)))
          have n0_ := Aside0.mk (Kd.R_drew HO215.out)
          have n1_ := Aside0.mk (IsS41.drew HI212.out)
          have n2_ := Aside0.mk (below_drew1 HB.out)
          clear HO215
          clear HI212
          clear HB
          have HO215 := n0_
          have HI212 := n1_
          have HB := n2_
          clear n0_ n1_ n2_
          have p225 : 0 ≤ ((ji13) : Int) := of_decide_eq_true (by first | (with_reducible assumption) | assumption)
          have q225 : (ji13) < (t213.length : Int) := of_decide_eq_true (by first | (with_reducible assumption) | assumption)
          obtain ⟨ad225, e225, hx225_0, hx225_1, hx225_2, hx225_3, hx225_4, hx225_5, hx225_6⟩ := at_T34 (Kd.R_reads' HO215.out).2.2 (ji13) p225 q225
          cases e225
          replace p225 := eq_true p225
          replace q225 := eq_true q225
          have p233 : 0 ≤ ((ji13) : Int) := of_decide_eq_true (by first | (with_reducible assumption) | assumption)
          have q233 : (ji13) < (t213.length : Int) := of_decide_eq_true (by first | (with_reducible assumption) | assumption)
          obtain ⟨ad233, e233, hx233_0, hx233_1, hx233_2, hx233_3, hx233_4, hx233_5, hx233_6⟩ := at_T34 (Kd.R_reads' HO215.out).2.2 (ji13) p233 q233
          obtain rfl : ad225 = ad233 := (by injection e233)
          replace p233 := eq_true p233
          replace q233 := eq_true q233
          refine start_ (n := 30) (S := fun w' => w'.cell? (ad225.add (((ji13)).toNat * 7)) = some (.int .i64 ((rd_T34 t213 (ji13)).f0)) ∧ w'.cell? ⟨(ad225.add (((ji13)).toNat * 7)).block, (ad225.add (((ji13)).toNat * 7)).off + 1, none⟩ = some (.int .i64 ((rd_T34 t213 (ji13)).f1)) ∧ w'.cell? ⟨(ad225.add (((ji13)).toNat * 7)).block, (ad225.add (((ji13)).toNat * 7)).off + 2, none⟩ = some (.int .i64 ((rd_T34 t213 (ji13)).f2)) ∧ w'.cell? ⟨(ad225.add (((ji13)).toNat * 7)).block, (ad225.add (((ji13)).toNat * 7)).off + 3, none⟩ = some (.int .i64 ((rd_T34 t213 (ji13)).f3.f0)) ∧ w'.cell? ⟨(ad225.add (((ji13)).toNat * 7)).block, (ad225.add (((ji13)).toNat * 7)).off + 4, none⟩ = some (.int .i64 ((rd_T34 t213 (ji13)).f3.f1)) ∧ w'.cell? ⟨(ad225.add (((ji13)).toNat * 7)).block, (ad225.add (((ji13)).toNat * 7)).off + 5, none⟩ = some (.int .i64 ((rd_T34 t213 (ji13)).f3.f2)) ∧ w'.cell? ⟨(ad225.add (((ji13)).toNat * 7)).block, (ad225.add (((ji13)).toNat * 7)).off + 6, none⟩ = some (.int .i64 ((rd_T34 t213 (ji13)).f3.f3)) ∧ w'.cell? (ad225.add (((ji13)).toNat * 7)) = some (.int .i64 ((rd_T34 t213 (ji13)).f0)) ∧ w'.cell? ⟨(ad225.add (((ji13)).toNat * 7)).block, (ad225.add (((ji13)).toNat * 7)).off + 1, none⟩ = some (.int .i64 ((rd_T34 t213 (ji13)).f1)) ∧ w'.cell? ⟨(ad225.add (((ji13)).toNat * 7)).block, (ad225.add (((ji13)).toNat * 7)).off + 2, none⟩ = some (.int .i64 ((rd_T34 t213 (ji13)).f2)) ∧ w'.cell? ⟨(ad225.add (((ji13)).toNat * 7)).block, (ad225.add (((ji13)).toNat * 7)).off + 3, none⟩ = some (.int .i64 ((rd_T34 t213 (ji13)).f3.f0)) ∧ w'.cell? ⟨(ad225.add (((ji13)).toNat * 7)).block, (ad225.add (((ji13)).toNat * 7)).off + 4, none⟩ = some (.int .i64 ((rd_T34 t213 (ji13)).f3.f1)) ∧ w'.cell? ⟨(ad225.add (((ji13)).toNat * 7)).block, (ad225.add (((ji13)).toNat * 7)).off + 5, none⟩ = some (.int .i64 ((rd_T34 t213 (ji13)).f3.f2)) ∧ w'.cell? ⟨(ad225.add (((ji13)).toNat * 7)).block, (ad225.add (((ji13)).toNat * 7)).off + 6, none⟩ = some (.int .i64 ((rd_T34 t213 (ji13)).f3.f3))) (ds := []) #[false, false, false, false, false, false, false, false, false, false, false, false, false, false, false, false, false, false, false, false, false, false, false, false, false, false, false, false, false, false] (by kernel_rfl) rfl rfl ⟨hx225_0, hx225_1, hx225_2, hx225_3, hx225_4, hx225_5, hx225_6, hx233_0, hx233_1, hx233_2, hx233_3, hx233_4, hx233_5, hx233_6⟩ (fun hHeld => ?_); refine with_tabW mutoscopelaw5_KeyMade.tab7 mutoscopelaw5_KeyMade.bits7 (fun HT_ HW_ => ?_)
          generalize w26.drew = w27 at HO215 HI212 HB hx225_0 hx225_1 hx225_2 hx225_3 hx225_4 hx225_5 hx225_6 hx233_0 hx233_1 hx233_2 hx233_3 hx233_4 hx233_5 hx233_6 hHeld ⊢
          refine pure_ (i := 1) (N := some 18) (v := ?_) (a' := ?_) #[false, true, false, false, false, false, false, false, false, false, false, false, false, false, false, false, false, false, false, false, false, false, false, false, false, false, false, false, false, false] rfl rfl (any_of HT_.out (by kernel_rfl)) (fun _ _ _ h => h) (Or.inl ⟨by rfl, ?_⟩) ?_ ?_
          rotate_left
          ·intro w'
           go_simp
           with_reducible rfl
          rotate_left
          ·simp only [Act.put, List.setIfInBounds_toArray, List.set_cons_zero, List.set_cons_succ, i64_w, i32_w]
           rfl
          refine pure_ (i := 3) (N := some 20) (v := ?_) (a' := ?_) #[false, true, false, true, false, false, false, false, false, false, false, false, false, false, false, false, false, false, false, false, false, false, false, false, false, false, false, false, false, false] rfl rfl (any_of HT_.out (by kernel_rfl)) (fun _ _ _ h => h) (Or.inl ⟨by rfl, ?_⟩) ?_ ?_
          rotate_left
          ·intro w'
           go_simp
           with_reducible rfl
          rotate_left
          ·simp only [Act.put, List.setIfInBounds_toArray, List.set_cons_zero, List.set_cons_succ, i64_w, i32_w]
           rfl
          refine pure_ (i := 4) (N := some 21) (v := ?_) (a' := ?_) #[false, true, false, true, true, false, false, false, false, false, false, false, false, false, false, false, false, false, false, false, false, false, false, false, false, false, false, false, false, false] rfl rfl (any_of HT_.out (by kernel_rfl)) (fun _ _ _ h => h) (Or.inl ⟨by rfl, ?_⟩) ?_ ?_
          rotate_left
          ·intro w'
           go_simp
           with_reducible rfl
          rotate_left
          ·simp only [Act.put, List.setIfInBounds_toArray, List.set_cons_zero, List.set_cons_succ, i64_w, i32_w]
           rfl
          refine pure_ (i := 5) (N := some 22) (v := ?_) (a' := ?_) #[false, true, false, true, true, true, false, false, false, false, false, false, false, false, false, false, false, false, false, false, false, false, false, false, false, false, false, false, false, false] rfl rfl (any_of HT_.out (by kernel_rfl)) (fun _ _ _ h => h) (Or.inl ⟨by rfl, ?_⟩) ?_ ?_
          rotate_left
          ·intro w'
           go_simp
           with_reducible rfl
          rotate_left
          ·simp only [Act.put, List.setIfInBounds_toArray, List.set_cons_zero, List.set_cons_succ, i64_w, i32_w]
           rfl
          refine pure_ (i := 6) (N := some 23) (v := ?_) (a' := ?_) #[false, true, false, true, true, true, true, false, false, false, false, false, false, false, false, false, false, false, false, false, false, false, false, false, false, false, false, false, false, false] rfl rfl (any_of HT_.out (by kernel_rfl)) (fun _ _ _ h => h) (Or.inl ⟨by rfl, ?_⟩) ?_ ?_
          rotate_left
          ·intro w'
           go_simp
           with_reducible rfl
          rotate_left
          ·simp only [Act.put, List.setIfInBounds_toArray, List.set_cons_zero, List.set_cons_succ, i64_w, i32_w]
           rfl
          refine pure_ (i := 7) (N := some 24) (v := ?_) (a' := ?_) #[false, true, false, true, true, true, true, true, false, false, false, false, false, false, false, false, false, false, false, false, false, false, false, false, false, false, false, false, false, false] rfl rfl (any_of HT_.out (by kernel_rfl)) (fun _ _ _ h => h) (Or.inl ⟨by rfl, ?_⟩) ?_ ?_
          rotate_left
          ·intro w'
           go_simp
           with_reducible rfl
          rotate_left
          ·simp only [Act.put, List.setIfInBounds_toArray, List.set_cons_zero, List.set_cons_succ, i64_w, i32_w]
           rfl
          refine take_ (i := 8) (N := some 25) (v := ?_) (a' := ?_) #[false, true, false, true, true, true, true, true, true, false, false, false, false, false, false, false, false, false, false, false, false, false, false, false, false, false, false, false, false, false] rfl rfl (take_ofW HT_.out HW_.out (by kernel_rfl)) (fun _ _ _ h => h) (Or.inl ⟨by rfl, ?_⟩) hHeld ?_ ?_
          rotate_left
          ·rintro w' ⟨s0, s1, s2, s3, s4, s5, s6, s7, s8, s9, s10, s11, s12, s13⟩
           go_simp
           with_reducible rfl
          rotate_left
          ·simp only [Act.put, List.setIfInBounds_toArray, List.set_cons_zero, List.set_cons_succ, i64_w, i32_w]
           rfl
          refine join_ (σ := Value × Value × Value) 20 #[true, true, true, true, true, true, true, true, true, true, false, false, false, false, false, false, false, false, false, false, false, false, false, false, false, false, false, false, false, false] (fun s_ => [(17, s_.1), (19, s_.2.1), (26, s_.2.2)]) (fun s_ w' => (w'.cell? (ad225.add (((ji13)).toNat * 7)) = some (.int .i64 ((rd_T34 t213 (ji13)).f0)) ∧ w'.cell? ⟨(ad225.add (((ji13)).toNat * 7)).block, (ad225.add (((ji13)).toNat * 7)).off + 1, none⟩ = some (.int .i64 ((rd_T34 t213 (ji13)).f1)) ∧ w'.cell? ⟨(ad225.add (((ji13)).toNat * 7)).block, (ad225.add (((ji13)).toNat * 7)).off + 2, none⟩ = some (.int .i64 ((rd_T34 t213 (ji13)).f2)) ∧ w'.cell? ⟨(ad225.add (((ji13)).toNat * 7)).block, (ad225.add (((ji13)).toNat * 7)).off + 3, none⟩ = some (.int .i64 ((rd_T34 t213 (ji13)).f3.f0)) ∧ w'.cell? ⟨(ad225.add (((ji13)).toNat * 7)).block, (ad225.add (((ji13)).toNat * 7)).off + 4, none⟩ = some (.int .i64 ((rd_T34 t213 (ji13)).f3.f1)) ∧ w'.cell? ⟨(ad225.add (((ji13)).toNat * 7)).block, (ad225.add (((ji13)).toNat * 7)).off + 5, none⟩ = some (.int .i64 ((rd_T34 t213 (ji13)).f3.f2)) ∧ w'.cell? ⟨(ad225.add (((ji13)).toNat * 7)).block, (ad225.add (((ji13)).toNat * 7)).off + 6, none⟩ = some (.int .i64 ((rd_T34 t213 (ji13)).f3.f3)) ∧ w'.cell? (ad225.add (((ji13)).toNat * 7)) = some (.int .i64 ((rd_T34 t213 (ji13)).f0)) ∧ w'.cell? ⟨(ad225.add (((ji13)).toNat * 7)).block, (ad225.add (((ji13)).toNat * 7)).off + 1, none⟩ = some (.int .i64 ((rd_T34 t213 (ji13)).f1)) ∧ w'.cell? ⟨(ad225.add (((ji13)).toNat * 7)).block, (ad225.add (((ji13)).toNat * 7)).off + 2, none⟩ = some (.int .i64 ((rd_T34 t213 (ji13)).f2)) ∧ w'.cell? ⟨(ad225.add (((ji13)).toNat * 7)).block, (ad225.add (((ji13)).toNat * 7)).off + 3, none⟩ = some (.int .i64 ((rd_T34 t213 (ji13)).f3.f0)) ∧ w'.cell? ⟨(ad225.add (((ji13)).toNat * 7)).block, (ad225.add (((ji13)).toNat * 7)).off + 4, none⟩ = some (.int .i64 ((rd_T34 t213 (ji13)).f3.f1)) ∧ w'.cell? ⟨(ad225.add (((ji13)).toNat * 7)).block, (ad225.add (((ji13)).toNat * 7)).off + 5, none⟩ = some (.int .i64 ((rd_T34 t213 (ji13)).f3.f2)) ∧ w'.cell? ⟨(ad225.add (((ji13)).toNat * 7)).block, (ad225.add (((ji13)).toNat * 7)).off + 6, none⟩ = some (.int .i64 ((rd_T34 t213 (ji13)).f3.f3))) ∧ (Kd.R k34 34 w' w.heap.size (fun k_ => some k_ ≠ (s_.2.1 : Value).ownBlock ∧ some k_ ≠ (s_.2.2 : Value).ownBlock) (.slice (some ad225) t213.length co25) t213) ∧ (Kd.R k34 34 w' w.heap.size (fun k_ => some k_ ≠ (.slice (some ad225) t213.length co25 : Value).ownBlock ∧ some k_ ≠ (s_.2.2 : Value).ownBlock) s_.2.1 y222) ∧ (Kd.R k34 34 w' w.heap.size (fun k_ => some k_ ≠ (.slice (some ad225) t213.length co25 : Value).ownBlock ∧ some k_ ≠ (s_.2.1 : Value).ownBlock) s_.2.2 y226) ∧ (IsS41 w w' gb212 l0 t216) ∧ (Below w.heap.size w w')) ?_ ?_
          rotate_left
          ·intro hCont
           refine two_ (i := 0) (j := 9) (Ni := some 17) (Nj := some 26) #[true, true, false, true, true, true, true, true, true, false, false, false, false, false, false, false, false, false, false, false, false, false, false, false, false, false, false, false, false, false] #[false, true, false, true, true, true, true, true, true, true, false, false, false, false, false, false, false, false, false, false, false, false, false, false, false, false, false, false, false, false] rfl rfl rfl rfl (two_of HT_.out (by kernel_rfl)) (by decide) (by decide) (fun K hK => ?_) (fun K hK => ?_)
           ·skip
            refine Kd.R_lit_step k34 _ 34 ?hg (N := 17) ?hd (xs := ([] : List (S34))) (inner := []) (ok := fun _ => True) (okp := fun _ => True) ?hr ?hp (fun _ hk => hk) trivial (Below.refl _ _) (Nat.le_refl _) (by simp) ?_; (case hd => rfl); (case hg => rfl); (case hr => first | (go_simp; done) | (go_simp; rfl)); (case hp => exact (Reps.none _ _))
            intro v220 w28 ho29 hb hg_ hnew_
            have HS0_ := (hb.cell (World.block_lt_of_cell? _ _ (hHeld.1))).trans (hHeld.1)
            have HS1_ := (hb.cell (World.block_lt_of_cell? _ _ (hHeld.2.1))).trans (hHeld.2.1)
            have HS2_ := (hb.cell (World.block_lt_of_cell? _ _ (hHeld.2.2.1))).trans (hHeld.2.2.1)
            have HS3_ := (hb.cell (World.block_lt_of_cell? _ _ (hHeld.2.2.2.1))).trans (hHeld.2.2.2.1)
            have HS4_ := (hb.cell (World.block_lt_of_cell? _ _ (hHeld.2.2.2.2.1))).trans (hHeld.2.2.2.2.1)
            have HS5_ := (hb.cell (World.block_lt_of_cell? _ _ (hHeld.2.2.2.2.2.1))).trans (hHeld.2.2.2.2.2.1)
            have HS6_ := (hb.cell (World.block_lt_of_cell? _ _ (hHeld.2.2.2.2.2.2.1))).trans (hHeld.2.2.2.2.2.2.1)
            have HS7_ := (hb.cell (World.block_lt_of_cell? _ _ (hHeld.2.2.2.2.2.2.2.1))).trans (hHeld.2.2.2.2.2.2.2.1)
            have HS8_ := (hb.cell (World.block_lt_of_cell? _ _ (hHeld.2.2.2.2.2.2.2.2.1))).trans (hHeld.2.2.2.2.2.2.2.2.1)
            have HS9_ := (hb.cell (World.block_lt_of_cell? _ _ (hHeld.2.2.2.2.2.2.2.2.2.1))).trans (hHeld.2.2.2.2.2.2.2.2.2.1)
            have HS10_ := (hb.cell (World.block_lt_of_cell? _ _ (hHeld.2.2.2.2.2.2.2.2.2.2.1))).trans (hHeld.2.2.2.2.2.2.2.2.2.2.1)
            have HS11_ := (hb.cell (World.block_lt_of_cell? _ _ (hHeld.2.2.2.2.2.2.2.2.2.2.2.1))).trans (hHeld.2.2.2.2.2.2.2.2.2.2.2.1)
            have HS12_ := (hb.cell (World.block_lt_of_cell? _ _ (hHeld.2.2.2.2.2.2.2.2.2.2.2.2.1))).trans (hHeld.2.2.2.2.2.2.2.2.2.2.2.2.1)
            have HS13_ := (hb.cell (World.block_lt_of_cell? _ _ (hHeld.2.2.2.2.2.2.2.2.2.2.2.2.2))).trans (hHeld.2.2.2.2.2.2.2.2.2.2.2.2.2)
            clear hg_ hnew_
            (first | rw [← Ny219.out] at ho29 | (simp only [Int.reduceToNat] at ho29; rw [← Ny219.out] at ho29))
            have n0_ := Aside0.mk (Kd.R_elder' (by (with_reducible repeat (first | apply Kd.R_alloc | apply Kd.R_drewN | apply Kd.R_drew)); exact HO215.out) (Kd.R_base ho29) hb)
            have n1_ := Aside0.mk (Kd.R_lower (Kd.R_new' ho29 (Kd.R_lt (by (with_reducible repeat (first | apply Kd.R_alloc | apply Kd.R_drewN | apply Kd.R_drew)); exact HO215.out))) (below_size (by repeat (first | (with_reducible first | exact HB.out | apply below_alloc | apply pw_below_drewN | apply below_drew1 | refine below_set ?_ (IsS41.ge HI212.out)) | exact HB.out))))
            have n2_ := Aside0.mk (IsS41.below (by repeat (first | (with_reducible first | exact HI212.out | apply IsS41.alloc | apply IsS41.drewN | apply IsS41.drew | apply IsS41.set_1) | exact HI212.out)) hb)
            have n3_ := Aside0.mk (below_step (by repeat (first | (with_reducible first | exact HB.out | apply below_alloc | apply pw_below_drewN | apply below_drew1 | refine below_set ?_ (IsS41.ge HI212.out)) | exact HB.out)) hb)
            clear HO215
            clear HI212
            clear HB
            have HO215 := n0_
            have HO221 := n1_
            have HI212 := n2_
            have HB := n3_
            clear n0_ n1_ n2_ n3_
            clear hb ho29
            refine hK.out _ _ ⟨HS0_, HS1_, HS2_, HS3_, HS4_, HS5_, HS6_, HS7_, HS8_, HS9_, HS10_, HS11_, HS12_, HS13_⟩ (fun hHeld => ?_)
            clear hK K
            refine norm_ (a' := ?_) ?_ ?_
            rotate_left
            ·show Act.put _ (some 17) _ = _
             simp only [Act.put, List.setIfInBounds_toArray, List.set_cons_zero, List.set_cons_succ, i64_w, i32_w]
             rfl
            refine two_ (i := 2) (j := 9) (Ni := some 19) (Nj := some 26) #[true, true, true, true, true, true, true, true, true, false, false, false, false, false, false, false, false, false, false, false, false, false, false, false, false, false, false, false, false, false] #[true, true, false, true, true, true, true, true, true, true, false, false, false, false, false, false, false, false, false, false, false, false, false, false, false, false, false, false, false, false] rfl rfl rfl rfl (two_of HT_.out (by kernel_rfl)) (by decide) (by decide) (fun K hK => ?_) (fun K hK => ?_)
            ·skip
             refine Kd.R_append_rows_step k34 (w0 := w) w.heap.size (by rfl) (.tmp 17) (.tmp 18) 31 34 (.agg #[(.int .i64 0), (.int .i64 0), (.int .i64 0), (.int .i64 0), (.int .i64 0), (.int .i64 0), (.int .i64 0)]) 56 rfl Try.underlying31 info34 rfl (by decide) (by omega) v220 y219 t213 _ _ _ (fun k_ => some k_ ≠ (.slice (some ad225) t213.length co25 : Value).ownBlock) (fun _ => False) rfl rfl ?aO ?aR (fun _ _ h => h) (fun _ h => h.elim) ?aF ?aB ?aS ?aL ?_
             (case aR => repeat (first | exact (Kd.R_reads' HO215.out).2.2 | (with_reducible refine Kd.C_alloc ?_ _) | (with_reducible refine Kd.C_drewN ?_ _) | (with_reducible refine Kd.C_drew ?_)))
             (case aB => exact (by repeat (first | (with_reducible first | exact HB.out | apply below_alloc | apply pw_below_drewN | apply below_drew1 | refine below_set ?_ (IsS41.ge HI212.out)) | exact HB.out)))
             (case aF => exact (fun k_ hk => Kd.fresh' (Kd.R_lt (by (with_reducible repeat (first | apply Kd.R_alloc | apply Kd.R_drewN | apply Kd.R_drew)); exact HO215.out)) k_ hk))
             (case aO => exact (by (with_reducible repeat (first | apply Kd.R_alloc | apply Kd.R_drewN | apply Kd.R_drew)); exact Kd.R_mono HO221.out (fun _ hk => hk.2)))
             (case aS => exact (below_size (by repeat (first | (with_reducible first | exact HB.out | apply below_alloc | apply pw_below_drewN | apply below_drew1 | refine below_set ?_ (IsS41.ge HI212.out)) | exact HB.out))))
             (case aL => have := LMc12.out; omega)
             intro v223 w30 ho hb hg hat
             have HS0_ := cell_grown hg (hHeld.1) (by first | (rw [add_block]; exact (fun e_ => by have h_ := HO221.out.1 _ e_.symm; first | exact h_.2 rfl | exact h_.1 rfl | exact h_.1.2 rfl | exact h_.1.1.2 rfl | exact h_.2.1 rfl | exact h_.2.2 rfl | exact h_.1.2.1 rfl | exact h_.1.1.1.2 rfl | exact h_ rfl)) | (show some (Addr.add _ _).block ≠ _; rw [add_block]; exact (fun e_ => by have h_ := HO221.out.1 _ e_.symm; first | exact h_.2 rfl | exact h_.1 rfl | exact h_.1.2 rfl | exact h_.1.1.2 rfl | exact h_.2.1 rfl | exact h_.2.2 rfl | exact h_.1.2.1 rfl | exact h_.1.1.1.2 rfl | exact h_ rfl)) | exact (fun e_ => by have h_ := HO221.out.1 _ e_.symm; first | exact h_.2 rfl | exact h_.1 rfl | exact h_.1.2 rfl | exact h_.1.1.2 rfl | exact h_.2.1 rfl | exact h_.2.2 rfl | exact h_.1.2.1 rfl | exact h_.1.1.1.2 rfl | exact h_ rfl))
             have HS1_ := cell_grown hg (hHeld.2.1) (by first | (rw [add_block]; exact (fun e_ => by have h_ := HO221.out.1 _ e_.symm; first | exact h_.2 rfl | exact h_.1 rfl | exact h_.1.2 rfl | exact h_.1.1.2 rfl | exact h_.2.1 rfl | exact h_.2.2 rfl | exact h_.1.2.1 rfl | exact h_.1.1.1.2 rfl | exact h_ rfl)) | (show some (Addr.add _ _).block ≠ _; rw [add_block]; exact (fun e_ => by have h_ := HO221.out.1 _ e_.symm; first | exact h_.2 rfl | exact h_.1 rfl | exact h_.1.2 rfl | exact h_.1.1.2 rfl | exact h_.2.1 rfl | exact h_.2.2 rfl | exact h_.1.2.1 rfl | exact h_.1.1.1.2 rfl | exact h_ rfl)) | exact (fun e_ => by have h_ := HO221.out.1 _ e_.symm; first | exact h_.2 rfl | exact h_.1 rfl | exact h_.1.2 rfl | exact h_.1.1.2 rfl | exact h_.2.1 rfl | exact h_.2.2 rfl | exact h_.1.2.1 rfl | exact h_.1.1.1.2 rfl | exact h_ rfl))
             have HS2_ := cell_grown hg (hHeld.2.2.1) (by first | (rw [add_block]; exact (fun e_ => by have h_ := HO221.out.1 _ e_.symm; first | exact h_.2 rfl | exact h_.1 rfl | exact h_.1.2 rfl | exact h_.1.1.2 rfl | exact h_.2.1 rfl | exact h_.2.2 rfl | exact h_.1.2.1 rfl | exact h_.1.1.1.2 rfl | exact h_ rfl)) | (show some (Addr.add _ _).block ≠ _; rw [add_block]; exact (fun e_ => by have h_ := HO221.out.1 _ e_.symm; first | exact h_.2 rfl | exact h_.1 rfl | exact h_.1.2 rfl | exact h_.1.1.2 rfl | exact h_.2.1 rfl | exact h_.2.2 rfl | exact h_.1.2.1 rfl | exact h_.1.1.1.2 rfl | exact h_ rfl)) | exact (fun e_ => by have h_ := HO221.out.1 _ e_.symm; first | exact h_.2 rfl | exact h_.1 rfl | exact h_.1.2 rfl | exact h_.1.1.2 rfl | exact h_.2.1 rfl | exact h_.2.2 rfl | exact h_.1.2.1 rfl | exact h_.1.1.1.2 rfl | exact h_ rfl))
             have HS3_ := cell_grown hg (hHeld.2.2.2.1) (by first | (rw [add_block]; exact (fun e_ => by have h_ := HO221.out.1 _ e_.symm; first | exact h_.2 rfl | exact h_.1 rfl | exact h_.1.2 rfl | exact h_.1.1.2 rfl | exact h_.2.1 rfl | exact h_.2.2 rfl | exact h_.1.2.1 rfl | exact h_.1.1.1.2 rfl | exact h_ rfl)) | (show some (Addr.add _ _).block ≠ _; rw [add_block]; exact (fun e_ => by have h_ := HO221.out.1 _ e_.symm; first | exact h_.2 rfl | exact h_.1 rfl | exact h_.1.2 rfl | exact h_.1.1.2 rfl | exact h_.2.1 rfl | exact h_.2.2 rfl | exact h_.1.2.1 rfl | exact h_.1.1.1.2 rfl | exact h_ rfl)) | exact (fun e_ => by have h_ := HO221.out.1 _ e_.symm; first | exact h_.2 rfl | exact h_.1 rfl | exact h_.1.2 rfl | exact h_.1.1.2 rfl | exact h_.2.1 rfl | exact h_.2.2 rfl | exact h_.1.2.1 rfl | exact h_.1.1.1.2 rfl | exact h_ rfl))
             have HS4_ := cell_grown hg (hHeld.2.2.2.2.1) (by first | (rw [add_block]; exact (fun e_ => by have h_ := HO221.out.1 _ e_.symm; first | exact h_.2 rfl | exact h_.1 rfl | exact h_.1.2 rfl | exact h_.1.1.2 rfl | exact h_.2.1 rfl | exact h_.2.2 rfl | exact h_.1.2.1 rfl | exact h_.1.1.1.2 rfl | exact h_ rfl)) | (show some (Addr.add _ _).block ≠ _; rw [add_block]; exact (fun e_ => by have h_ := HO221.out.1 _ e_.symm; first | exact h_.2 rfl | exact h_.1 rfl | exact h_.1.2 rfl | exact h_.1.1.2 rfl | exact h_.2.1 rfl | exact h_.2.2 rfl | exact h_.1.2.1 rfl | exact h_.1.1.1.2 rfl | exact h_ rfl)) | exact (fun e_ => by have h_ := HO221.out.1 _ e_.symm; first | exact h_.2 rfl | exact h_.1 rfl | exact h_.1.2 rfl | exact h_.1.1.2 rfl | exact h_.2.1 rfl | exact h_.2.2 rfl | exact h_.1.2.1 rfl | exact h_.1.1.1.2 rfl | exact h_ rfl))
             have HS5_ := cell_grown hg (hHeld.2.2.2.2.2.1) (by first | (rw [add_block]; exact (fun e_ => by have h_ := HO221.out.1 _ e_.symm; first | exact h_.2 rfl | exact h_.1 rfl | exact h_.1.2 rfl | exact h_.1.1.2 rfl | exact h_.2.1 rfl | exact h_.2.2 rfl | exact h_.1.2.1 rfl | exact h_.1.1.1.2 rfl | exact h_ rfl)) | (show some (Addr.add _ _).block ≠ _; rw [add_block]; exact (fun e_ => by have h_ := HO221.out.1 _ e_.symm; first | exact h_.2 rfl | exact h_.1 rfl | exact h_.1.2 rfl | exact h_.1.1.2 rfl | exact h_.2.1 rfl | exact h_.2.2 rfl | exact h_.1.2.1 rfl | exact h_.1.1.1.2 rfl | exact h_ rfl)) | exact (fun e_ => by have h_ := HO221.out.1 _ e_.symm; first | exact h_.2 rfl | exact h_.1 rfl | exact h_.1.2 rfl | exact h_.1.1.2 rfl | exact h_.2.1 rfl | exact h_.2.2 rfl | exact h_.1.2.1 rfl | exact h_.1.1.1.2 rfl | exact h_ rfl))
             have HS6_ := cell_grown hg (hHeld.2.2.2.2.2.2.1) (by first | (rw [add_block]; exact (fun e_ => by have h_ := HO221.out.1 _ e_.symm; first | exact h_.2 rfl | exact h_.1 rfl | exact h_.1.2 rfl | exact h_.1.1.2 rfl | exact h_.2.1 rfl | exact h_.2.2 rfl | exact h_.1.2.1 rfl | exact h_.1.1.1.2 rfl | exact h_ rfl)) | (show some (Addr.add _ _).block ≠ _; rw [add_block]; exact (fun e_ => by have h_ := HO221.out.1 _ e_.symm; first | exact h_.2 rfl | exact h_.1 rfl | exact h_.1.2 rfl | exact h_.1.1.2 rfl | exact h_.2.1 rfl | exact h_.2.2 rfl | exact h_.1.2.1 rfl | exact h_.1.1.1.2 rfl | exact h_ rfl)) | exact (fun e_ => by have h_ := HO221.out.1 _ e_.symm; first | exact h_.2 rfl | exact h_.1 rfl | exact h_.1.2 rfl | exact h_.1.1.2 rfl | exact h_.2.1 rfl | exact h_.2.2 rfl | exact h_.1.2.1 rfl | exact h_.1.1.1.2 rfl | exact h_ rfl))
             have HS7_ := cell_grown hg (hHeld.2.2.2.2.2.2.2.1) (by first | (rw [add_block]; exact (fun e_ => by have h_ := HO221.out.1 _ e_.symm; first | exact h_.2 rfl | exact h_.1 rfl | exact h_.1.2 rfl | exact h_.1.1.2 rfl | exact h_.2.1 rfl | exact h_.2.2 rfl | exact h_.1.2.1 rfl | exact h_.1.1.1.2 rfl | exact h_ rfl)) | (show some (Addr.add _ _).block ≠ _; rw [add_block]; exact (fun e_ => by have h_ := HO221.out.1 _ e_.symm; first | exact h_.2 rfl | exact h_.1 rfl | exact h_.1.2 rfl | exact h_.1.1.2 rfl | exact h_.2.1 rfl | exact h_.2.2 rfl | exact h_.1.2.1 rfl | exact h_.1.1.1.2 rfl | exact h_ rfl)) | exact (fun e_ => by have h_ := HO221.out.1 _ e_.symm; first | exact h_.2 rfl | exact h_.1 rfl | exact h_.1.2 rfl | exact h_.1.1.2 rfl | exact h_.2.1 rfl | exact h_.2.2 rfl | exact h_.1.2.1 rfl | exact h_.1.1.1.2 rfl | exact h_ rfl))
             have HS8_ := cell_grown hg (hHeld.2.2.2.2.2.2.2.2.1) (by first | (rw [add_block]; exact (fun e_ => by have h_ := HO221.out.1 _ e_.symm; first | exact h_.2 rfl | exact h_.1 rfl | exact h_.1.2 rfl | exact h_.1.1.2 rfl | exact h_.2.1 rfl | exact h_.2.2 rfl | exact h_.1.2.1 rfl | exact h_.1.1.1.2 rfl | exact h_ rfl)) | (show some (Addr.add _ _).block ≠ _; rw [add_block]; exact (fun e_ => by have h_ := HO221.out.1 _ e_.symm; first | exact h_.2 rfl | exact h_.1 rfl | exact h_.1.2 rfl | exact h_.1.1.2 rfl | exact h_.2.1 rfl | exact h_.2.2 rfl | exact h_.1.2.1 rfl | exact h_.1.1.1.2 rfl | exact h_ rfl)) | exact (fun e_ => by have h_ := HO221.out.1 _ e_.symm; first | exact h_.2 rfl | exact h_.1 rfl | exact h_.1.2 rfl | exact h_.1.1.2 rfl | exact h_.2.1 rfl | exact h_.2.2 rfl | exact h_.1.2.1 rfl | exact h_.1.1.1.2 rfl | exact h_ rfl))
             have HS9_ := cell_grown hg (hHeld.2.2.2.2.2.2.2.2.2.1) (by first | (rw [add_block]; exact (fun e_ => by have h_ := HO221.out.1 _ e_.symm; first | exact h_.2 rfl | exact h_.1 rfl | exact h_.1.2 rfl | exact h_.1.1.2 rfl | exact h_.2.1 rfl | exact h_.2.2 rfl | exact h_.1.2.1 rfl | exact h_.1.1.1.2 rfl | exact h_ rfl)) | (show some (Addr.add _ _).block ≠ _; rw [add_block]; exact (fun e_ => by have h_ := HO221.out.1 _ e_.symm; first | exact h_.2 rfl | exact h_.1 rfl | exact h_.1.2 rfl | exact h_.1.1.2 rfl | exact h_.2.1 rfl | exact h_.2.2 rfl | exact h_.1.2.1 rfl | exact h_.1.1.1.2 rfl | exact h_ rfl)) | exact (fun e_ => by have h_ := HO221.out.1 _ e_.symm; first | exact h_.2 rfl | exact h_.1 rfl | exact h_.1.2 rfl | exact h_.1.1.2 rfl | exact h_.2.1 rfl | exact h_.2.2 rfl | exact h_.1.2.1 rfl | exact h_.1.1.1.2 rfl | exact h_ rfl))
             have HS10_ := cell_grown hg (hHeld.2.2.2.2.2.2.2.2.2.2.1) (by first | (rw [add_block]; exact (fun e_ => by have h_ := HO221.out.1 _ e_.symm; first | exact h_.2 rfl | exact h_.1 rfl | exact h_.1.2 rfl | exact h_.1.1.2 rfl | exact h_.2.1 rfl | exact h_.2.2 rfl | exact h_.1.2.1 rfl | exact h_.1.1.1.2 rfl | exact h_ rfl)) | (show some (Addr.add _ _).block ≠ _; rw [add_block]; exact (fun e_ => by have h_ := HO221.out.1 _ e_.symm; first | exact h_.2 rfl | exact h_.1 rfl | exact h_.1.2 rfl | exact h_.1.1.2 rfl | exact h_.2.1 rfl | exact h_.2.2 rfl | exact h_.1.2.1 rfl | exact h_.1.1.1.2 rfl | exact h_ rfl)) | exact (fun e_ => by have h_ := HO221.out.1 _ e_.symm; first | exact h_.2 rfl | exact h_.1 rfl | exact h_.1.2 rfl | exact h_.1.1.2 rfl | exact h_.2.1 rfl | exact h_.2.2 rfl | exact h_.1.2.1 rfl | exact h_.1.1.1.2 rfl | exact h_ rfl))
             have HS11_ := cell_grown hg (hHeld.2.2.2.2.2.2.2.2.2.2.2.1) (by first | (rw [add_block]; exact (fun e_ => by have h_ := HO221.out.1 _ e_.symm; first | exact h_.2 rfl | exact h_.1 rfl | exact h_.1.2 rfl | exact h_.1.1.2 rfl | exact h_.2.1 rfl | exact h_.2.2 rfl | exact h_.1.2.1 rfl | exact h_.1.1.1.2 rfl | exact h_ rfl)) | (show some (Addr.add _ _).block ≠ _; rw [add_block]; exact (fun e_ => by have h_ := HO221.out.1 _ e_.symm; first | exact h_.2 rfl | exact h_.1 rfl | exact h_.1.2 rfl | exact h_.1.1.2 rfl | exact h_.2.1 rfl | exact h_.2.2 rfl | exact h_.1.2.1 rfl | exact h_.1.1.1.2 rfl | exact h_ rfl)) | exact (fun e_ => by have h_ := HO221.out.1 _ e_.symm; first | exact h_.2 rfl | exact h_.1 rfl | exact h_.1.2 rfl | exact h_.1.1.2 rfl | exact h_.2.1 rfl | exact h_.2.2 rfl | exact h_.1.2.1 rfl | exact h_.1.1.1.2 rfl | exact h_ rfl))
             have HS12_ := cell_grown hg (hHeld.2.2.2.2.2.2.2.2.2.2.2.2.1) (by first | (rw [add_block]; exact (fun e_ => by have h_ := HO221.out.1 _ e_.symm; first | exact h_.2 rfl | exact h_.1 rfl | exact h_.1.2 rfl | exact h_.1.1.2 rfl | exact h_.2.1 rfl | exact h_.2.2 rfl | exact h_.1.2.1 rfl | exact h_.1.1.1.2 rfl | exact h_ rfl)) | (show some (Addr.add _ _).block ≠ _; rw [add_block]; exact (fun e_ => by have h_ := HO221.out.1 _ e_.symm; first | exact h_.2 rfl | exact h_.1 rfl | exact h_.1.2 rfl | exact h_.1.1.2 rfl | exact h_.2.1 rfl | exact h_.2.2 rfl | exact h_.1.2.1 rfl | exact h_.1.1.1.2 rfl | exact h_ rfl)) | exact (fun e_ => by have h_ := HO221.out.1 _ e_.symm; first | exact h_.2 rfl | exact h_.1 rfl | exact h_.1.2 rfl | exact h_.1.1.2 rfl | exact h_.2.1 rfl | exact h_.2.2 rfl | exact h_.1.2.1 rfl | exact h_.1.1.1.2 rfl | exact h_ rfl))
             have HS13_ := cell_grown hg (hHeld.2.2.2.2.2.2.2.2.2.2.2.2.2) (by first | (rw [add_block]; exact (fun e_ => by have h_ := HO221.out.1 _ e_.symm; first | exact h_.2 rfl | exact h_.1 rfl | exact h_.1.2 rfl | exact h_.1.1.2 rfl | exact h_.2.1 rfl | exact h_.2.2 rfl | exact h_.1.2.1 rfl | exact h_.1.1.1.2 rfl | exact h_ rfl)) | (show some (Addr.add _ _).block ≠ _; rw [add_block]; exact (fun e_ => by have h_ := HO221.out.1 _ e_.symm; first | exact h_.2 rfl | exact h_.1 rfl | exact h_.1.2 rfl | exact h_.1.1.2 rfl | exact h_.2.1 rfl | exact h_.2.2 rfl | exact h_.1.2.1 rfl | exact h_.1.1.1.2 rfl | exact h_ rfl)) | exact (fun e_ => by have h_ := HO221.out.1 _ e_.symm; first | exact h_.2 rfl | exact h_.1 rfl | exact h_.1.2 rfl | exact h_.1.1.2 rfl | exact h_.2.1 rfl | exact h_.2.2 rfl | exact h_.1.2.1 rfl | exact h_.1.1.1.2 rfl | exact h_ rfl))
             rw [← Ny222.out] at ho
             have n0_ := Aside0.mk (IsS41.grown (show IsS41 w _ gb212 l0 t216 from by repeat (first | (with_reducible first | exact HI212.out | apply IsS41.alloc | apply IsS41.drewN | apply IsS41.drew | apply IsS41.set_1) | exact HI212.out)) hg (IsS41.own_ne HI212.out HO221.out (by decide)))
             have n1_ := Aside0.mk (Kd.R_after (ok := (fun _ => True)) (by (with_reducible repeat (first | apply Kd.R_alloc | apply Kd.R_drewN | apply Kd.R_drew)); exact HO215.out) hg hat)
             have n2_ := Aside0.mk (hb)
             have n3_ := Aside0.mk (ho)
             clear HI212
             clear HO215
             clear HB
             clear HO221
             have HI212 := n0_
             have HO215 := n1_
             have HB := n2_
             have HO224 := n3_
             clear n0_ n1_ n2_ n3_
             clear ho hb hg hat
             refine hK.out _ _ ⟨HS0_, HS1_, HS2_, HS3_, HS4_, HS5_, HS6_, HS7_, HS8_, HS9_, HS10_, HS11_, HS12_, HS13_⟩ (fun hHeld => ?_)
             clear hK K
             refine norm_ (a' := ?_) ?_ ?_
             rotate_left
             ·show Act.put _ (some 19) _ = _
              simp only [Act.put, List.setIfInBounds_toArray, List.set_cons_zero, List.set_cons_succ, i64_w, i32_w]
              rfl
             refine one_ (i := 9) (N := some 26) #[true, true, true, true, true, true, true, true, true, true, false, false, false, false, false, false, false, false, false, false, false, false, false, false, false, false, false, false, false, false] rfl rfl (one_of HT_.out (by kernel_rfl)) (by decide) (fun K hK => ?_)
             refine Kd.R_lit_step k34 _ 34 ?hg (N := 26) ?hd (xs := ([(⟨(rd_T34 t213 (ji13)).f0, (rd_T34 t213 (ji13)).f1, (rd_T34 t213 (ji13)).f2, (⟨(rd_T34 t213 (ji13)).f3.f0, (rd_T34 t213 (ji13)).f3.f1, (rd_T34 t213 (ji13)).f3.f2, (rd_T34 t213 (ji13)).f3.f3⟩ : S23)⟩ : S34)] : List (S34))) (inner := [.int .i64 ((rd_T34 t213 (ji13)).f0), .int .i64 ((rd_T34 t213 (ji13)).f1), .int .i64 ((rd_T34 t213 (ji13)).f2), .int .i64 ((rd_T34 t213 (ji13)).f3.f0), .int .i64 ((rd_T34 t213 (ji13)).f3.f1), .int .i64 ((rd_T34 t213 (ji13)).f3.f2), .int .i64 ((rd_T34 t213 (ji13)).f3.f3)]) (ok := fun _ => True) (okp := fun _ => True) ?hr ?hp (fun _ hk => hk) trivial (Below.refl _ _) (Nat.le_refl _) (by simp) ?_; (case hd => rfl); (case hg => rfl); (case hr => first | (go_simp; done) | (go_simp; rfl)); (case hp => exact (Reps.c7 (show Kd.M k34 _ _ _ (⟨(rd_T34 t213 (ji13)).f0, (rd_T34 t213 (ji13)).f1, (rd_T34 t213 (ji13)).f2, (⟨(rd_T34 t213 (ji13)).f3.f0, (rd_T34 t213 (ji13)).f3.f1, (rd_T34 t213 (ji13)).f3.f2, (rd_T34 t213 (ji13)).f3.f3⟩ : S23)⟩ : S34) [.int .i64 ((rd_T34 t213 (ji13)).f0), .int .i64 ((rd_T34 t213 (ji13)).f1), .int .i64 ((rd_T34 t213 (ji13)).f2), .int .i64 ((rd_T34 t213 (ji13)).f3.f0), .int .i64 ((rd_T34 t213 (ji13)).f3.f1), .int .i64 ((rd_T34 t213 (ji13)).f3.f2), .int .i64 ((rd_T34 t213 (ji13)).f3.f3)] from (k34_mkM _ _ _ (⟨(rd_T34 t213 (ji13)).f0, (rd_T34 t213 (ji13)).f1, (rd_T34 t213 (ji13)).f2, (⟨(rd_T34 t213 (ji13)).f3.f0, (rd_T34 t213 (ji13)).f3.f1, (rd_T34 t213 (ji13)).f3.f2, (rd_T34 t213 (ji13)).f3.f3⟩ : S23)⟩ : S34) )) (Reps.none _ _)))
             intro v227 w31 ho32 hb hg_ hnew_
             have HS0_ := (hb.cell (World.block_lt_of_cell? _ _ (hHeld.1))).trans (hHeld.1)
             have HS1_ := (hb.cell (World.block_lt_of_cell? _ _ (hHeld.2.1))).trans (hHeld.2.1)
             have HS2_ := (hb.cell (World.block_lt_of_cell? _ _ (hHeld.2.2.1))).trans (hHeld.2.2.1)
             have HS3_ := (hb.cell (World.block_lt_of_cell? _ _ (hHeld.2.2.2.1))).trans (hHeld.2.2.2.1)
             have HS4_ := (hb.cell (World.block_lt_of_cell? _ _ (hHeld.2.2.2.2.1))).trans (hHeld.2.2.2.2.1)
             have HS5_ := (hb.cell (World.block_lt_of_cell? _ _ (hHeld.2.2.2.2.2.1))).trans (hHeld.2.2.2.2.2.1)
             have HS6_ := (hb.cell (World.block_lt_of_cell? _ _ (hHeld.2.2.2.2.2.2.1))).trans (hHeld.2.2.2.2.2.2.1)
             have HS7_ := (hb.cell (World.block_lt_of_cell? _ _ (hHeld.2.2.2.2.2.2.2.1))).trans (hHeld.2.2.2.2.2.2.2.1)
             have HS8_ := (hb.cell (World.block_lt_of_cell? _ _ (hHeld.2.2.2.2.2.2.2.2.1))).trans (hHeld.2.2.2.2.2.2.2.2.1)
             have HS9_ := (hb.cell (World.block_lt_of_cell? _ _ (hHeld.2.2.2.2.2.2.2.2.2.1))).trans (hHeld.2.2.2.2.2.2.2.2.2.1)
             have HS10_ := (hb.cell (World.block_lt_of_cell? _ _ (hHeld.2.2.2.2.2.2.2.2.2.2.1))).trans (hHeld.2.2.2.2.2.2.2.2.2.2.1)
             have HS11_ := (hb.cell (World.block_lt_of_cell? _ _ (hHeld.2.2.2.2.2.2.2.2.2.2.2.1))).trans (hHeld.2.2.2.2.2.2.2.2.2.2.2.1)
             have HS12_ := (hb.cell (World.block_lt_of_cell? _ _ (hHeld.2.2.2.2.2.2.2.2.2.2.2.2.1))).trans (hHeld.2.2.2.2.2.2.2.2.2.2.2.2.1)
             have HS13_ := (hb.cell (World.block_lt_of_cell? _ _ (hHeld.2.2.2.2.2.2.2.2.2.2.2.2.2))).trans (hHeld.2.2.2.2.2.2.2.2.2.2.2.2.2)
             clear hg_ hnew_
             (first | rw [← Ny226.out] at ho32 | (simp only [Int.reduceToNat] at ho32; rw [← Ny226.out] at ho32))
             have n0_ := Aside0.mk (Kd.R_elder' (by (with_reducible repeat (first | apply Kd.R_alloc | apply Kd.R_drewN | apply Kd.R_drew)); exact HO215.out) (Kd.R_base ho32) hb)
             have n1_ := Aside0.mk (Kd.R_elder' (by (with_reducible repeat (first | apply Kd.R_alloc | apply Kd.R_drewN | apply Kd.R_drew)); exact HO224.out) (Kd.R_base ho32) hb)
             have n2_ := Aside0.mk (Kd.R_lower (Kd.R_new' (Kd.R_new' ho32 (Kd.R_lt (by (with_reducible repeat (first | apply Kd.R_alloc | apply Kd.R_drewN | apply Kd.R_drew)); exact HO215.out))) (Kd.R_lt (by (with_reducible repeat (first | apply Kd.R_alloc | apply Kd.R_drewN | apply Kd.R_drew)); exact HO224.out))) (below_size (by repeat (first | (with_reducible first | exact HB.out | apply below_alloc | apply pw_below_drewN | apply below_drew1 | refine below_set ?_ (IsS41.ge HI212.out)) | exact HB.out))))
             have n3_ := Aside0.mk (IsS41.below (by repeat (first | (with_reducible first | exact HI212.out | apply IsS41.alloc | apply IsS41.drewN | apply IsS41.drew | apply IsS41.set_1) | exact HI212.out)) hb)
             have n4_ := Aside0.mk (below_step (by repeat (first | (with_reducible first | exact HB.out | apply below_alloc | apply pw_below_drewN | apply below_drew1 | refine below_set ?_ (IsS41.ge HI212.out)) | exact HB.out)) hb)
             clear HO215
             clear HO224
             clear HI212
             clear HB
             have HO215 := n0_
             have HO224 := n1_
             have HO228 := n2_
             have HI212 := n3_
             have HB := n4_
             clear n0_ n1_ n2_ n3_ n4_
             clear hb ho32
             refine hK.out _ _ ⟨HS0_, HS1_, HS2_, HS3_, HS4_, HS5_, HS6_, HS7_, HS8_, HS9_, HS10_, HS11_, HS12_, HS13_⟩ (fun hHeld => ?_)
             clear hK K
             refine norm_ (a' := ?_) ?_ ?_
             rotate_left
             ·show Act.put _ (some 26) _ = _
              simp only [Act.put, List.setIfInBounds_toArray, List.set_cons_zero, List.set_cons_succ, i64_w, i32_w]
              rfl
             exact norm_ (by simp only [putAll, Act.put, List.setIfInBounds_toArray, List.set_cons_zero, List.set_cons_succ]) (hCont (v220, v223, v227) _ ⟨hHeld, (by (with_reducible repeat (first | apply Kd.R_alloc | apply Kd.R_drewN | apply Kd.R_drew)); exact Kd.R_mono HO215.out (fun _ hk => ⟨hk.1.2, hk.2⟩)), (by (with_reducible repeat (first | apply Kd.R_alloc | apply Kd.R_drewN | apply Kd.R_drew)); exact HO224.out), (by (with_reducible repeat (first | apply Kd.R_alloc | apply Kd.R_drewN | apply Kd.R_drew)); exact Kd.R_mono HO228.out (fun _ hk => ⟨hk.1.2, hk.2⟩)), (by repeat (first | (with_reducible first | exact HI212.out | apply IsS41.alloc | apply IsS41.drewN | apply IsS41.drew | apply IsS41.set_1) | exact HI212.out)), (by repeat (first | (with_reducible first | exact HB.out | apply below_alloc | apply pw_below_drewN | apply below_drew1 | refine below_set ?_ (IsS41.ge HI212.out)) | exact HB.out))⟩)
            ·skip
             refine Kd.R_lit_step k34 _ 34 ?hg (N := 26) ?hd (xs := ([(⟨(rd_T34 t213 (ji13)).f0, (rd_T34 t213 (ji13)).f1, (rd_T34 t213 (ji13)).f2, (⟨(rd_T34 t213 (ji13)).f3.f0, (rd_T34 t213 (ji13)).f3.f1, (rd_T34 t213 (ji13)).f3.f2, (rd_T34 t213 (ji13)).f3.f3⟩ : S23)⟩ : S34)] : List (S34))) (inner := [.int .i64 ((rd_T34 t213 (ji13)).f0), .int .i64 ((rd_T34 t213 (ji13)).f1), .int .i64 ((rd_T34 t213 (ji13)).f2), .int .i64 ((rd_T34 t213 (ji13)).f3.f0), .int .i64 ((rd_T34 t213 (ji13)).f3.f1), .int .i64 ((rd_T34 t213 (ji13)).f3.f2), .int .i64 ((rd_T34 t213 (ji13)).f3.f3)]) (ok := fun _ => True) (okp := fun _ => True) ?hr ?hp (fun _ hk => hk) trivial (Below.refl _ _) (Nat.le_refl _) (by simp) ?_; (case hd => rfl); (case hg => rfl); (case hr => first | (go_simp; done) | (go_simp; rfl)); (case hp => exact (Reps.c7 (show Kd.M k34 _ _ _ (⟨(rd_T34 t213 (ji13)).f0, (rd_T34 t213 (ji13)).f1, (rd_T34 t213 (ji13)).f2, (⟨(rd_T34 t213 (ji13)).f3.f0, (rd_T34 t213 (ji13)).f3.f1, (rd_T34 t213 (ji13)).f3.f2, (rd_T34 t213 (ji13)).f3.f3⟩ : S23)⟩ : S34) [.int .i64 ((rd_T34 t213 (ji13)).f0), .int .i64 ((rd_T34 t213 (ji13)).f1), .int .i64 ((rd_T34 t213 (ji13)).f2), .int .i64 ((rd_T34 t213 (ji13)).f3.f0), .int .i64 ((rd_T34 t213 (ji13)).f3.f1), .int .i64 ((rd_T34 t213 (ji13)).f3.f2), .int .i64 ((rd_T34 t213 (ji13)).f3.f3)] from (k34_mkM _ _ _ (⟨(rd_T34 t213 (ji13)).f0, (rd_T34 t213 (ji13)).f1, (rd_T34 t213 (ji13)).f2, (⟨(rd_T34 t213 (ji13)).f3.f0, (rd_T34 t213 (ji13)).f3.f1, (rd_T34 t213 (ji13)).f3.f2, (rd_T34 t213 (ji13)).f3.f3⟩ : S23)⟩ : S34) )) (Reps.none _ _)))
             intro v227 w30 ho31 hb hg_ hnew_
             have HS0_ := (hb.cell (World.block_lt_of_cell? _ _ (hHeld.1))).trans (hHeld.1)
             have HS1_ := (hb.cell (World.block_lt_of_cell? _ _ (hHeld.2.1))).trans (hHeld.2.1)
             have HS2_ := (hb.cell (World.block_lt_of_cell? _ _ (hHeld.2.2.1))).trans (hHeld.2.2.1)
             have HS3_ := (hb.cell (World.block_lt_of_cell? _ _ (hHeld.2.2.2.1))).trans (hHeld.2.2.2.1)
             have HS4_ := (hb.cell (World.block_lt_of_cell? _ _ (hHeld.2.2.2.2.1))).trans (hHeld.2.2.2.2.1)
             have HS5_ := (hb.cell (World.block_lt_of_cell? _ _ (hHeld.2.2.2.2.2.1))).trans (hHeld.2.2.2.2.2.1)
             have HS6_ := (hb.cell (World.block_lt_of_cell? _ _ (hHeld.2.2.2.2.2.2.1))).trans (hHeld.2.2.2.2.2.2.1)
             have HS7_ := (hb.cell (World.block_lt_of_cell? _ _ (hHeld.2.2.2.2.2.2.2.1))).trans (hHeld.2.2.2.2.2.2.2.1)
             have HS8_ := (hb.cell (World.block_lt_of_cell? _ _ (hHeld.2.2.2.2.2.2.2.2.1))).trans (hHeld.2.2.2.2.2.2.2.2.1)
             have HS9_ := (hb.cell (World.block_lt_of_cell? _ _ (hHeld.2.2.2.2.2.2.2.2.2.1))).trans (hHeld.2.2.2.2.2.2.2.2.2.1)
             have HS10_ := (hb.cell (World.block_lt_of_cell? _ _ (hHeld.2.2.2.2.2.2.2.2.2.2.1))).trans (hHeld.2.2.2.2.2.2.2.2.2.2.1)
             have HS11_ := (hb.cell (World.block_lt_of_cell? _ _ (hHeld.2.2.2.2.2.2.2.2.2.2.2.1))).trans (hHeld.2.2.2.2.2.2.2.2.2.2.2.1)
             have HS12_ := (hb.cell (World.block_lt_of_cell? _ _ (hHeld.2.2.2.2.2.2.2.2.2.2.2.2.1))).trans (hHeld.2.2.2.2.2.2.2.2.2.2.2.2.1)
             have HS13_ := (hb.cell (World.block_lt_of_cell? _ _ (hHeld.2.2.2.2.2.2.2.2.2.2.2.2.2))).trans (hHeld.2.2.2.2.2.2.2.2.2.2.2.2.2)
             clear hg_ hnew_
             (first | rw [← Ny226.out] at ho31 | (simp only [Int.reduceToNat] at ho31; rw [← Ny226.out] at ho31))
             have n0_ := Aside0.mk (Kd.R_elder' (by (with_reducible repeat (first | apply Kd.R_alloc | apply Kd.R_drewN | apply Kd.R_drew)); exact HO215.out) (Kd.R_base ho31) hb)
             have n1_ := Aside0.mk (Kd.R_elder' (by (with_reducible repeat (first | apply Kd.R_alloc | apply Kd.R_drewN | apply Kd.R_drew)); exact HO221.out) (Kd.R_base ho31) hb)
             have n2_ := Aside0.mk (Kd.R_lower (Kd.R_new' (Kd.R_new' ho31 (Kd.R_lt (by (with_reducible repeat (first | apply Kd.R_alloc | apply Kd.R_drewN | apply Kd.R_drew)); exact HO215.out))) (Kd.R_lt (by (with_reducible repeat (first | apply Kd.R_alloc | apply Kd.R_drewN | apply Kd.R_drew)); exact HO221.out))) (below_size (by repeat (first | (with_reducible first | exact HB.out | apply below_alloc | apply pw_below_drewN | apply below_drew1 | refine below_set ?_ (IsS41.ge HI212.out)) | exact HB.out))))
             have n3_ := Aside0.mk (IsS41.below (by repeat (first | (with_reducible first | exact HI212.out | apply IsS41.alloc | apply IsS41.drewN | apply IsS41.drew | apply IsS41.set_1) | exact HI212.out)) hb)
             have n4_ := Aside0.mk (below_step (by repeat (first | (with_reducible first | exact HB.out | apply below_alloc | apply pw_below_drewN | apply below_drew1 | refine below_set ?_ (IsS41.ge HI212.out)) | exact HB.out)) hb)
             clear HO215
             clear HO221
             clear HI212
             clear HB
             have HO215 := n0_
             have HO221 := n1_
             have HO228 := n2_
             have HI212 := n3_
             have HB := n4_
             clear n0_ n1_ n2_ n3_ n4_
             clear hb ho31
             refine hK.out _ _ ⟨HS0_, HS1_, HS2_, HS3_, HS4_, HS5_, HS6_, HS7_, HS8_, HS9_, HS10_, HS11_, HS12_, HS13_⟩ (fun hHeld => ?_)
             clear hK K
             refine norm_ (a' := ?_) ?_ ?_
             rotate_left
             ·show Act.put _ (some 26) _ = _
              simp only [Act.put, List.setIfInBounds_toArray, List.set_cons_zero, List.set_cons_succ, i64_w, i32_w]
              rfl
             refine one_ (i := 2) (N := some 19) #[true, true, true, true, true, true, true, true, true, true, false, false, false, false, false, false, false, false, false, false, false, false, false, false, false, false, false, false, false, false] rfl rfl (one_of HT_.out (by kernel_rfl)) (by decide) (fun K hK => ?_)
             refine Kd.R_append_rows_step k34 (w0 := w) w.heap.size (by rfl) (.tmp 17) (.tmp 18) 31 34 (.agg #[(.int .i64 0), (.int .i64 0), (.int .i64 0), (.int .i64 0), (.int .i64 0), (.int .i64 0), (.int .i64 0)]) 56 rfl Try.underlying31 info34 rfl (by decide) (by omega) v220 y219 t213 _ _ _ (fun k_ => some k_ ≠ (.slice (some ad225) t213.length co25 : Value).ownBlock ∧ some k_ ≠ (v227 : Value).ownBlock) (fun _ => False) rfl rfl ?aO ?aR (fun _ _ h => h) (fun _ h => h.elim) ?aF ?aB ?aS ?aL ?_
             (case aR => repeat (first | exact (Kd.R_reads' HO215.out).2.2 | (with_reducible refine Kd.C_alloc ?_ _) | (with_reducible refine Kd.C_drewN ?_ _) | (with_reducible refine Kd.C_drew ?_)))
             (case aB => exact (by repeat (first | (with_reducible first | exact HB.out | apply below_alloc | apply pw_below_drewN | apply below_drew1 | refine below_set ?_ (IsS41.ge HI212.out)) | exact HB.out)))
             (case aF => exact (fun k_ hk => ⟨Kd.fresh' (Kd.R_lt (by (with_reducible repeat (first | apply Kd.R_alloc | apply Kd.R_drewN | apply Kd.R_drew)); exact HO215.out)) k_ hk, Kd.fresh' (Kd.R_lt (by (with_reducible repeat (first | apply Kd.R_alloc | apply Kd.R_drewN | apply Kd.R_drew)); exact HO228.out)) k_ hk⟩))
             (case aO => exact (by (with_reducible repeat (first | apply Kd.R_alloc | apply Kd.R_drewN | apply Kd.R_drew)); exact Kd.R_mono HO221.out (fun _ hk => ⟨hk.1.2, hk.2⟩)))
             (case aS => exact (below_size (by repeat (first | (with_reducible first | exact HB.out | apply below_alloc | apply pw_below_drewN | apply below_drew1 | refine below_set ?_ (IsS41.ge HI212.out)) | exact HB.out))))
             (case aL => have := LMc12.out; omega)
             intro v223 w32 ho hb hg hat
             have HS0_ := cell_grown hg (hHeld.1) (by first | (rw [add_block]; exact (fun e_ => by have h_ := HO221.out.1 _ e_.symm; first | exact h_.2 rfl | exact h_.1 rfl | exact h_.1.2 rfl | exact h_.1.1.2 rfl | exact h_.2.1 rfl | exact h_.2.2 rfl | exact h_.1.2.1 rfl | exact h_.1.1.1.2 rfl | exact h_ rfl)) | (show some (Addr.add _ _).block ≠ _; rw [add_block]; exact (fun e_ => by have h_ := HO221.out.1 _ e_.symm; first | exact h_.2 rfl | exact h_.1 rfl | exact h_.1.2 rfl | exact h_.1.1.2 rfl | exact h_.2.1 rfl | exact h_.2.2 rfl | exact h_.1.2.1 rfl | exact h_.1.1.1.2 rfl | exact h_ rfl)) | exact (fun e_ => by have h_ := HO221.out.1 _ e_.symm; first | exact h_.2 rfl | exact h_.1 rfl | exact h_.1.2 rfl | exact h_.1.1.2 rfl | exact h_.2.1 rfl | exact h_.2.2 rfl | exact h_.1.2.1 rfl | exact h_.1.1.1.2 rfl | exact h_ rfl))
             have HS1_ := cell_grown hg (hHeld.2.1) (by first | (rw [add_block]; exact (fun e_ => by have h_ := HO221.out.1 _ e_.symm; first | exact h_.2 rfl | exact h_.1 rfl | exact h_.1.2 rfl | exact h_.1.1.2 rfl | exact h_.2.1 rfl | exact h_.2.2 rfl | exact h_.1.2.1 rfl | exact h_.1.1.1.2 rfl | exact h_ rfl)) | (show some (Addr.add _ _).block ≠ _; rw [add_block]; exact (fun e_ => by have h_ := HO221.out.1 _ e_.symm; first | exact h_.2 rfl | exact h_.1 rfl | exact h_.1.2 rfl | exact h_.1.1.2 rfl | exact h_.2.1 rfl | exact h_.2.2 rfl | exact h_.1.2.1 rfl | exact h_.1.1.1.2 rfl | exact h_ rfl)) | exact (fun e_ => by have h_ := HO221.out.1 _ e_.symm; first | exact h_.2 rfl | exact h_.1 rfl | exact h_.1.2 rfl | exact h_.1.1.2 rfl | exact h_.2.1 rfl | exact h_.2.2 rfl | exact h_.1.2.1 rfl | exact h_.1.1.1.2 rfl | exact h_ rfl))
             have HS2_ := cell_grown hg (hHeld.2.2.1) (by first | (rw [add_block]; exact (fun e_ => by have h_ := HO221.out.1 _ e_.symm; first | exact h_.2 rfl | exact h_.1 rfl | exact h_.1.2 rfl | exact h_.1.1.2 rfl | exact h_.2.1 rfl | exact h_.2.2 rfl | exact h_.1.2.1 rfl | exact h_.1.1.1.2 rfl | exact h_ rfl)) | (show some (Addr.add _ _).block ≠ _; rw [add_block]; exact (fun e_ => by have h_ := HO221.out.1 _ e_.symm; first | exact h_.2 rfl | exact h_.1 rfl | exact h_.1.2 rfl | exact h_.1.1.2 rfl | exact h_.2.1 rfl | exact h_.2.2 rfl | exact h_.1.2.1 rfl | exact h_.1.1.1.2 rfl | exact h_ rfl)) | exact (fun e_ => by have h_ := HO221.out.1 _ e_.symm; first | exact h_.2 rfl | exact h_.1 rfl | exact h_.1.2 rfl | exact h_.1.1.2 rfl | exact h_.2.1 rfl | exact h_.2.2 rfl | exact h_.1.2.1 rfl | exact h_.1.1.1.2 rfl | exact h_ rfl))
             have HS3_ := cell_grown hg (hHeld.2.2.2.1) (by first | (rw [add_block]; exact (fun e_ => by have h_ := HO221.out.1 _ e_.symm; first | exact h_.2 rfl | exact h_.1 rfl | exact h_.1.2 rfl | exact h_.1.1.2 rfl | exact h_.2.1 rfl | exact h_.2.2 rfl | exact h_.1.2.1 rfl | exact h_.1.1.1.2 rfl | exact h_ rfl)) | (show some (Addr.add _ _).block ≠ _; rw [add_block]; exact (fun e_ => by have h_ := HO221.out.1 _ e_.symm; first | exact h_.2 rfl | exact h_.1 rfl | exact h_.1.2 rfl | exact h_.1.1.2 rfl | exact h_.2.1 rfl | exact h_.2.2 rfl | exact h_.1.2.1 rfl | exact h_.1.1.1.2 rfl | exact h_ rfl)) | exact (fun e_ => by have h_ := HO221.out.1 _ e_.symm; first | exact h_.2 rfl | exact h_.1 rfl | exact h_.1.2 rfl | exact h_.1.1.2 rfl | exact h_.2.1 rfl | exact h_.2.2 rfl | exact h_.1.2.1 rfl | exact h_.1.1.1.2 rfl | exact h_ rfl))
             have HS4_ := cell_grown hg (hHeld.2.2.2.2.1) (by first | (rw [add_block]; exact (fun e_ => by have h_ := HO221.out.1 _ e_.symm; first | exact h_.2 rfl | exact h_.1 rfl | exact h_.1.2 rfl | exact h_.1.1.2 rfl | exact h_.2.1 rfl | exact h_.2.2 rfl | exact h_.1.2.1 rfl | exact h_.1.1.1.2 rfl | exact h_ rfl)) | (show some (Addr.add _ _).block ≠ _; rw [add_block]; exact (fun e_ => by have h_ := HO221.out.1 _ e_.symm; first | exact h_.2 rfl | exact h_.1 rfl | exact h_.1.2 rfl | exact h_.1.1.2 rfl | exact h_.2.1 rfl | exact h_.2.2 rfl | exact h_.1.2.1 rfl | exact h_.1.1.1.2 rfl | exact h_ rfl)) | exact (fun e_ => by have h_ := HO221.out.1 _ e_.symm; first | exact h_.2 rfl | exact h_.1 rfl | exact h_.1.2 rfl | exact h_.1.1.2 rfl | exact h_.2.1 rfl | exact h_.2.2 rfl | exact h_.1.2.1 rfl | exact h_.1.1.1.2 rfl | exact h_ rfl))
             have HS5_ := cell_grown hg (hHeld.2.2.2.2.2.1) (by first | (rw [add_block]; exact (fun e_ => by have h_ := HO221.out.1 _ e_.symm; first | exact h_.2 rfl | exact h_.1 rfl | exact h_.1.2 rfl | exact h_.1.1.2 rfl | exact h_.2.1 rfl | exact h_.2.2 rfl | exact h_.1.2.1 rfl | exact h_.1.1.1.2 rfl | exact h_ rfl)) | (show some (Addr.add _ _).block ≠ _; rw [add_block]; exact (fun e_ => by have h_ := HO221.out.1 _ e_.symm; first | exact h_.2 rfl | exact h_.1 rfl | exact h_.1.2 rfl | exact h_.1.1.2 rfl | exact h_.2.1 rfl | exact h_.2.2 rfl | exact h_.1.2.1 rfl | exact h_.1.1.1.2 rfl | exact h_ rfl)) | exact (fun e_ => by have h_ := HO221.out.1 _ e_.symm; first | exact h_.2 rfl | exact h_.1 rfl | exact h_.1.2 rfl | exact h_.1.1.2 rfl | exact h_.2.1 rfl | exact h_.2.2 rfl | exact h_.1.2.1 rfl | exact h_.1.1.1.2 rfl | exact h_ rfl))
             have HS6_ := cell_grown hg (hHeld.2.2.2.2.2.2.1) (by first | (rw [add_block]; exact (fun e_ => by have h_ := HO221.out.1 _ e_.symm; first | exact h_.2 rfl | exact h_.1 rfl | exact h_.1.2 rfl | exact h_.1.1.2 rfl | exact h_.2.1 rfl | exact h_.2.2 rfl | exact h_.1.2.1 rfl | exact h_.1.1.1.2 rfl | exact h_ rfl)) | (show some (Addr.add _ _).block ≠ _; rw [add_block]; exact (fun e_ => by have h_ := HO221.out.1 _ e_.symm; first | exact h_.2 rfl | exact h_.1 rfl | exact h_.1.2 rfl | exact h_.1.1.2 rfl | exact h_.2.1 rfl | exact h_.2.2 rfl | exact h_.1.2.1 rfl | exact h_.1.1.1.2 rfl | exact h_ rfl)) | exact (fun e_ => by have h_ := HO221.out.1 _ e_.symm; first | exact h_.2 rfl | exact h_.1 rfl | exact h_.1.2 rfl | exact h_.1.1.2 rfl | exact h_.2.1 rfl | exact h_.2.2 rfl | exact h_.1.2.1 rfl | exact h_.1.1.1.2 rfl | exact h_ rfl))
             have HS7_ := cell_grown hg (hHeld.2.2.2.2.2.2.2.1) (by first | (rw [add_block]; exact (fun e_ => by have h_ := HO221.out.1 _ e_.symm; first | exact h_.2 rfl | exact h_.1 rfl | exact h_.1.2 rfl | exact h_.1.1.2 rfl | exact h_.2.1 rfl | exact h_.2.2 rfl | exact h_.1.2.1 rfl | exact h_.1.1.1.2 rfl | exact h_ rfl)) | (show some (Addr.add _ _).block ≠ _; rw [add_block]; exact (fun e_ => by have h_ := HO221.out.1 _ e_.symm; first | exact h_.2 rfl | exact h_.1 rfl | exact h_.1.2 rfl | exact h_.1.1.2 rfl | exact h_.2.1 rfl | exact h_.2.2 rfl | exact h_.1.2.1 rfl | exact h_.1.1.1.2 rfl | exact h_ rfl)) | exact (fun e_ => by have h_ := HO221.out.1 _ e_.symm; first | exact h_.2 rfl | exact h_.1 rfl | exact h_.1.2 rfl | exact h_.1.1.2 rfl | exact h_.2.1 rfl | exact h_.2.2 rfl | exact h_.1.2.1 rfl | exact h_.1.1.1.2 rfl | exact h_ rfl))
             have HS8_ := cell_grown hg (hHeld.2.2.2.2.2.2.2.2.1) (by first | (rw [add_block]; exact (fun e_ => by have h_ := HO221.out.1 _ e_.symm; first | exact h_.2 rfl | exact h_.1 rfl | exact h_.1.2 rfl | exact h_.1.1.2 rfl | exact h_.2.1 rfl | exact h_.2.2 rfl | exact h_.1.2.1 rfl | exact h_.1.1.1.2 rfl | exact h_ rfl)) | (show some (Addr.add _ _).block ≠ _; rw [add_block]; exact (fun e_ => by have h_ := HO221.out.1 _ e_.symm; first | exact h_.2 rfl | exact h_.1 rfl | exact h_.1.2 rfl | exact h_.1.1.2 rfl | exact h_.2.1 rfl | exact h_.2.2 rfl | exact h_.1.2.1 rfl | exact h_.1.1.1.2 rfl | exact h_ rfl)) | exact (fun e_ => by have h_ := HO221.out.1 _ e_.symm; first | exact h_.2 rfl | exact h_.1 rfl | exact h_.1.2 rfl | exact h_.1.1.2 rfl | exact h_.2.1 rfl | exact h_.2.2 rfl | exact h_.1.2.1 rfl | exact h_.1.1.1.2 rfl | exact h_ rfl))
             have HS9_ := cell_grown hg (hHeld.2.2.2.2.2.2.2.2.2.1) (by first | (rw [add_block]; exact (fun e_ => by have h_ := HO221.out.1 _ e_.symm; first | exact h_.2 rfl | exact h_.1 rfl | exact h_.1.2 rfl | exact h_.1.1.2 rfl | exact h_.2.1 rfl | exact h_.2.2 rfl | exact h_.1.2.1 rfl | exact h_.1.1.1.2 rfl | exact h_ rfl)) | (show some (Addr.add _ _).block ≠ _; rw [add_block]; exact (fun e_ => by have h_ := HO221.out.1 _ e_.symm; first | exact h_.2 rfl | exact h_.1 rfl | exact h_.1.2 rfl | exact h_.1.1.2 rfl | exact h_.2.1 rfl | exact h_.2.2 rfl | exact h_.1.2.1 rfl | exact h_.1.1.1.2 rfl | exact h_ rfl)) | exact (fun e_ => by have h_ := HO221.out.1 _ e_.symm; first | exact h_.2 rfl | exact h_.1 rfl | exact h_.1.2 rfl | exact h_.1.1.2 rfl | exact h_.2.1 rfl | exact h_.2.2 rfl | exact h_.1.2.1 rfl | exact h_.1.1.1.2 rfl | exact h_ rfl))
             have HS10_ := cell_grown hg (hHeld.2.2.2.2.2.2.2.2.2.2.1) (by first | (rw [add_block]; exact (fun e_ => by have h_ := HO221.out.1 _ e_.symm; first | exact h_.2 rfl | exact h_.1 rfl | exact h_.1.2 rfl | exact h_.1.1.2 rfl | exact h_.2.1 rfl | exact h_.2.2 rfl | exact h_.1.2.1 rfl | exact h_.1.1.1.2 rfl | exact h_ rfl)) | (show some (Addr.add _ _).block ≠ _; rw [add_block]; exact (fun e_ => by have h_ := HO221.out.1 _ e_.symm; first | exact h_.2 rfl | exact h_.1 rfl | exact h_.1.2 rfl | exact h_.1.1.2 rfl | exact h_.2.1 rfl | exact h_.2.2 rfl | exact h_.1.2.1 rfl | exact h_.1.1.1.2 rfl | exact h_ rfl)) | exact (fun e_ => by have h_ := HO221.out.1 _ e_.symm; first | exact h_.2 rfl | exact h_.1 rfl | exact h_.1.2 rfl | exact h_.1.1.2 rfl | exact h_.2.1 rfl | exact h_.2.2 rfl | exact h_.1.2.1 rfl | exact h_.1.1.1.2 rfl | exact h_ rfl))
             have HS11_ := cell_grown hg (hHeld.2.2.2.2.2.2.2.2.2.2.2.1) (by first | (rw [add_block]; exact (fun e_ => by have h_ := HO221.out.1 _ e_.symm; first | exact h_.2 rfl | exact h_.1 rfl | exact h_.1.2 rfl | exact h_.1.1.2 rfl | exact h_.2.1 rfl | exact h_.2.2 rfl | exact h_.1.2.1 rfl | exact h_.1.1.1.2 rfl | exact h_ rfl)) | (show some (Addr.add _ _).block ≠ _; rw [add_block]; exact (fun e_ => by have h_ := HO221.out.1 _ e_.symm; first | exact h_.2 rfl | exact h_.1 rfl | exact h_.1.2 rfl | exact h_.1.1.2 rfl | exact h_.2.1 rfl | exact h_.2.2 rfl | exact h_.1.2.1 rfl | exact h_.1.1.1.2 rfl | exact h_ rfl)) | exact (fun e_ => by have h_ := HO221.out.1 _ e_.symm; first | exact h_.2 rfl | exact h_.1 rfl | exact h_.1.2 rfl | exact h_.1.1.2 rfl | exact h_.2.1 rfl | exact h_.2.2 rfl | exact h_.1.2.1 rfl | exact h_.1.1.1.2 rfl | exact h_ rfl))
             have HS12_ := cell_grown hg (hHeld.2.2.2.2.2.2.2.2.2.2.2.2.1) (by first | (rw [add_block]; exact (fun e_ => by have h_ := HO221.out.1 _ e_.symm; first | exact h_.2 rfl | exact h_.1 rfl | exact h_.1.2 rfl | exact h_.1.1.2 rfl | exact h_.2.1 rfl | exact h_.2.2 rfl | exact h_.1.2.1 rfl | exact h_.1.1.1.2 rfl | exact h_ rfl)) | (show some (Addr.add _ _).block ≠ _; rw [add_block]; exact (fun e_ => by have h_ := HO221.out.1 _ e_.symm; first | exact h_.2 rfl | exact h_.1 rfl | exact h_.1.2 rfl | exact h_.1.1.2 rfl | exact h_.2.1 rfl | exact h_.2.2 rfl | exact h_.1.2.1 rfl | exact h_.1.1.1.2 rfl | exact h_ rfl)) | exact (fun e_ => by have h_ := HO221.out.1 _ e_.symm; first | exact h_.2 rfl | exact h_.1 rfl | exact h_.1.2 rfl | exact h_.1.1.2 rfl | exact h_.2.1 rfl | exact h_.2.2 rfl | exact h_.1.2.1 rfl | exact h_.1.1.1.2 rfl | exact h_ rfl))
             have HS13_ := cell_grown hg (hHeld.2.2.2.2.2.2.2.2.2.2.2.2.2) (by first | (rw [add_block]; exact (fun e_ => by have h_ := HO221.out.1 _ e_.symm; first | exact h_.2 rfl | exact h_.1 rfl | exact h_.1.2 rfl | exact h_.1.1.2 rfl | exact h_.2.1 rfl | exact h_.2.2 rfl | exact h_.1.2.1 rfl | exact h_.1.1.1.2 rfl | exact h_ rfl)) | (show some (Addr.add _ _).block ≠ _; rw [add_block]; exact (fun e_ => by have h_ := HO221.out.1 _ e_.symm; first | exact h_.2 rfl | exact h_.1 rfl | exact h_.1.2 rfl | exact h_.1.1.2 rfl | exact h_.2.1 rfl | exact h_.2.2 rfl | exact h_.1.2.1 rfl | exact h_.1.1.1.2 rfl | exact h_ rfl)) | exact (fun e_ => by have h_ := HO221.out.1 _ e_.symm; first | exact h_.2 rfl | exact h_.1 rfl | exact h_.1.2 rfl | exact h_.1.1.2 rfl | exact h_.2.1 rfl | exact h_.2.2 rfl | exact h_.1.2.1 rfl | exact h_.1.1.1.2 rfl | exact h_ rfl))
             rw [← Ny222.out] at ho
             have n0_ := Aside0.mk (IsS41.grown (show IsS41 w _ gb212 l0 t216 from by repeat (first | (with_reducible first | exact HI212.out | apply IsS41.alloc | apply IsS41.drewN | apply IsS41.drew | apply IsS41.set_1) | exact HI212.out)) hg (IsS41.own_ne HI212.out HO221.out (by decide)))
             have n1_ := Aside0.mk (Kd.R_after (ok := (fun k_ => some k_ ≠ (v227 : Value).ownBlock)) (by (with_reducible repeat (first | apply Kd.R_alloc | apply Kd.R_drewN | apply Kd.R_drew)); exact Kd.R_mono HO215.out (fun _ hk => ⟨hk.2, hk.1.2⟩)) hg hat)
             have n2_ := Aside0.mk (Kd.R_after (ok := (fun k_ => some k_ ≠ (.slice (some ad225) t213.length co25 : Value).ownBlock)) (by (with_reducible repeat (first | apply Kd.R_alloc | apply Kd.R_drewN | apply Kd.R_drew)); exact Kd.R_mono HO228.out (fun _ hk => ⟨hk.1.2, hk.2⟩)) hg hat)
             have n3_ := Aside0.mk (hb)
             have n4_ := Aside0.mk (ho)
             clear HI212
             clear HO215
             clear HO228
             clear HB
             clear HO221
             have HI212 := n0_
             have HO215 := n1_
             have HO228 := n2_
             have HB := n3_
             have HO224 := n4_
             clear n0_ n1_ n2_ n3_ n4_
             clear ho hb hg hat
             refine hK.out _ _ ⟨HS0_, HS1_, HS2_, HS3_, HS4_, HS5_, HS6_, HS7_, HS8_, HS9_, HS10_, HS11_, HS12_, HS13_⟩ (fun hHeld => ?_)
             clear hK K
             refine norm_ (a' := ?_) ?_ ?_
             rotate_left
             ·show Act.put _ (some 19) _ = _
              simp only [Act.put, List.setIfInBounds_toArray, List.set_cons_zero, List.set_cons_succ, i64_w, i32_w]
              rfl
             exact norm_ (by simp only [putAll, Act.put, List.setIfInBounds_toArray, List.set_cons_zero, List.set_cons_succ]) (hCont (v220, v223, v227) _ ⟨hHeld, (by (with_reducible repeat (first | apply Kd.R_alloc | apply Kd.R_drewN | apply Kd.R_drew)); exact Kd.R_mono HO215.out (fun _ hk => ⟨hk.2, hk.1⟩)), (by (with_reducible repeat (first | apply Kd.R_alloc | apply Kd.R_drewN | apply Kd.R_drew)); exact HO224.out), (by (with_reducible repeat (first | apply Kd.R_alloc | apply Kd.R_drewN | apply Kd.R_drew)); exact HO228.out), (by repeat (first | (with_reducible first | exact HI212.out | apply IsS41.alloc | apply IsS41.drewN | apply IsS41.drew | apply IsS41.set_1) | exact HI212.out)), (by repeat (first | (with_reducible first | exact HB.out | apply below_alloc | apply pw_below_drewN | apply below_drew1 | refine below_set ?_ (IsS41.ge HI212.out)) | exact HB.out))⟩)
           ·skip
            refine Kd.R_lit_step k34 _ 34 ?hg (N := 26) ?hd (xs := ([(⟨(rd_T34 t213 (ji13)).f0, (rd_T34 t213 (ji13)).f1, (rd_T34 t213 (ji13)).f2, (⟨(rd_T34 t213 (ji13)).f3.f0, (rd_T34 t213 (ji13)).f3.f1, (rd_T34 t213 (ji13)).f3.f2, (rd_T34 t213 (ji13)).f3.f3⟩ : S23)⟩ : S34)] : List (S34))) (inner := [.int .i64 ((rd_T34 t213 (ji13)).f0), .int .i64 ((rd_T34 t213 (ji13)).f1), .int .i64 ((rd_T34 t213 (ji13)).f2), .int .i64 ((rd_T34 t213 (ji13)).f3.f0), .int .i64 ((rd_T34 t213 (ji13)).f3.f1), .int .i64 ((rd_T34 t213 (ji13)).f3.f2), .int .i64 ((rd_T34 t213 (ji13)).f3.f3)]) (ok := fun _ => True) (okp := fun _ => True) ?hr ?hp (fun _ hk => hk) trivial (Below.refl _ _) (Nat.le_refl _) (by simp) ?_; (case hd => rfl); (case hg => rfl); (case hr => first | (go_simp; done) | (go_simp; rfl)); (case hp => exact (Reps.c7 (show Kd.M k34 _ _ _ (⟨(rd_T34 t213 (ji13)).f0, (rd_T34 t213 (ji13)).f1, (rd_T34 t213 (ji13)).f2, (⟨(rd_T34 t213 (ji13)).f3.f0, (rd_T34 t213 (ji13)).f3.f1, (rd_T34 t213 (ji13)).f3.f2, (rd_T34 t213 (ji13)).f3.f3⟩ : S23)⟩ : S34) [.int .i64 ((rd_T34 t213 (ji13)).f0), .int .i64 ((rd_T34 t213 (ji13)).f1), .int .i64 ((rd_T34 t213 (ji13)).f2), .int .i64 ((rd_T34 t213 (ji13)).f3.f0), .int .i64 ((rd_T34 t213 (ji13)).f3.f1), .int .i64 ((rd_T34 t213 (ji13)).f3.f2), .int .i64 ((rd_T34 t213 (ji13)).f3.f3)] from (k34_mkM _ _ _ (⟨(rd_T34 t213 (ji13)).f0, (rd_T34 t213 (ji13)).f1, (rd_T34 t213 (ji13)).f2, (⟨(rd_T34 t213 (ji13)).f3.f0, (rd_T34 t213 (ji13)).f3.f1, (rd_T34 t213 (ji13)).f3.f2, (rd_T34 t213 (ji13)).f3.f3⟩ : S23)⟩ : S34) )) (Reps.none _ _)))
            intro v227 w28 ho29 hb hg_ hnew_
            have HS0_ := (hb.cell (World.block_lt_of_cell? _ _ (hHeld.1))).trans (hHeld.1)
            have HS1_ := (hb.cell (World.block_lt_of_cell? _ _ (hHeld.2.1))).trans (hHeld.2.1)
            have HS2_ := (hb.cell (World.block_lt_of_cell? _ _ (hHeld.2.2.1))).trans (hHeld.2.2.1)
            have HS3_ := (hb.cell (World.block_lt_of_cell? _ _ (hHeld.2.2.2.1))).trans (hHeld.2.2.2.1)
            have HS4_ := (hb.cell (World.block_lt_of_cell? _ _ (hHeld.2.2.2.2.1))).trans (hHeld.2.2.2.2.1)
            have HS5_ := (hb.cell (World.block_lt_of_cell? _ _ (hHeld.2.2.2.2.2.1))).trans (hHeld.2.2.2.2.2.1)
            have HS6_ := (hb.cell (World.block_lt_of_cell? _ _ (hHeld.2.2.2.2.2.2.1))).trans (hHeld.2.2.2.2.2.2.1)
            have HS7_ := (hb.cell (World.block_lt_of_cell? _ _ (hHeld.2.2.2.2.2.2.2.1))).trans (hHeld.2.2.2.2.2.2.2.1)
            have HS8_ := (hb.cell (World.block_lt_of_cell? _ _ (hHeld.2.2.2.2.2.2.2.2.1))).trans (hHeld.2.2.2.2.2.2.2.2.1)
            have HS9_ := (hb.cell (World.block_lt_of_cell? _ _ (hHeld.2.2.2.2.2.2.2.2.2.1))).trans (hHeld.2.2.2.2.2.2.2.2.2.1)
            have HS10_ := (hb.cell (World.block_lt_of_cell? _ _ (hHeld.2.2.2.2.2.2.2.2.2.2.1))).trans (hHeld.2.2.2.2.2.2.2.2.2.2.1)
            have HS11_ := (hb.cell (World.block_lt_of_cell? _ _ (hHeld.2.2.2.2.2.2.2.2.2.2.2.1))).trans (hHeld.2.2.2.2.2.2.2.2.2.2.2.1)
            have HS12_ := (hb.cell (World.block_lt_of_cell? _ _ (hHeld.2.2.2.2.2.2.2.2.2.2.2.2.1))).trans (hHeld.2.2.2.2.2.2.2.2.2.2.2.2.1)
            have HS13_ := (hb.cell (World.block_lt_of_cell? _ _ (hHeld.2.2.2.2.2.2.2.2.2.2.2.2.2))).trans (hHeld.2.2.2.2.2.2.2.2.2.2.2.2.2)
            clear hg_ hnew_
            (first | rw [← Ny226.out] at ho29 | (simp only [Int.reduceToNat] at ho29; rw [← Ny226.out] at ho29))
            have n0_ := Aside0.mk (Kd.R_elder' (by (with_reducible repeat (first | apply Kd.R_alloc | apply Kd.R_drewN | apply Kd.R_drew)); exact HO215.out) (Kd.R_base ho29) hb)
            have n1_ := Aside0.mk (Kd.R_lower (Kd.R_new' ho29 (Kd.R_lt (by (with_reducible repeat (first | apply Kd.R_alloc | apply Kd.R_drewN | apply Kd.R_drew)); exact HO215.out))) (below_size (by repeat (first | (with_reducible first | exact HB.out | apply below_alloc | apply pw_below_drewN | apply below_drew1 | refine below_set ?_ (IsS41.ge HI212.out)) | exact HB.out))))
            have n2_ := Aside0.mk (IsS41.below (by repeat (first | (with_reducible first | exact HI212.out | apply IsS41.alloc | apply IsS41.drewN | apply IsS41.drew | apply IsS41.set_1) | exact HI212.out)) hb)
            have n3_ := Aside0.mk (below_step (by repeat (first | (with_reducible first | exact HB.out | apply below_alloc | apply pw_below_drewN | apply below_drew1 | refine below_set ?_ (IsS41.ge HI212.out)) | exact HB.out)) hb)
            clear HO215
            clear HI212
            clear HB
            have HO215 := n0_
            have HO228 := n1_
            have HI212 := n2_
            have HB := n3_
            clear n0_ n1_ n2_ n3_
            clear hb ho29
            refine hK.out _ _ ⟨HS0_, HS1_, HS2_, HS3_, HS4_, HS5_, HS6_, HS7_, HS8_, HS9_, HS10_, HS11_, HS12_, HS13_⟩ (fun hHeld => ?_)
            clear hK K
            refine norm_ (a' := ?_) ?_ ?_
            rotate_left
            ·show Act.put _ (some 26) _ = _
             simp only [Act.put, List.setIfInBounds_toArray, List.set_cons_zero, List.set_cons_succ, i64_w, i32_w]
             rfl
            refine one_ (i := 0) (N := some 17) #[true, true, false, true, true, true, true, true, true, true, false, false, false, false, false, false, false, false, false, false, false, false, false, false, false, false, false, false, false, false] rfl rfl (one_of HT_.out (by kernel_rfl)) (by decide) (fun K hK => ?_)
            refine Kd.R_lit_step k34 _ 34 ?hg (N := 17) ?hd (xs := ([] : List (S34))) (inner := []) (ok := fun _ => True) (okp := fun _ => True) ?hr ?hp (fun _ hk => hk) trivial (Below.refl _ _) (Nat.le_refl _) (by simp) ?_; (case hd => rfl); (case hg => rfl); (case hr => first | (go_simp; done) | (go_simp; rfl)); (case hp => exact (Reps.none _ _))
            intro v220 w30 ho31 hb hg_ hnew_
            have HS0_ := (hb.cell (World.block_lt_of_cell? _ _ (hHeld.1))).trans (hHeld.1)
            have HS1_ := (hb.cell (World.block_lt_of_cell? _ _ (hHeld.2.1))).trans (hHeld.2.1)
            have HS2_ := (hb.cell (World.block_lt_of_cell? _ _ (hHeld.2.2.1))).trans (hHeld.2.2.1)
            have HS3_ := (hb.cell (World.block_lt_of_cell? _ _ (hHeld.2.2.2.1))).trans (hHeld.2.2.2.1)
            have HS4_ := (hb.cell (World.block_lt_of_cell? _ _ (hHeld.2.2.2.2.1))).trans (hHeld.2.2.2.2.1)
            have HS5_ := (hb.cell (World.block_lt_of_cell? _ _ (hHeld.2.2.2.2.2.1))).trans (hHeld.2.2.2.2.2.1)
            have HS6_ := (hb.cell (World.block_lt_of_cell? _ _ (hHeld.2.2.2.2.2.2.1))).trans (hHeld.2.2.2.2.2.2.1)
            have HS7_ := (hb.cell (World.block_lt_of_cell? _ _ (hHeld.2.2.2.2.2.2.2.1))).trans (hHeld.2.2.2.2.2.2.2.1)
            have HS8_ := (hb.cell (World.block_lt_of_cell? _ _ (hHeld.2.2.2.2.2.2.2.2.1))).trans (hHeld.2.2.2.2.2.2.2.2.1)
            have HS9_ := (hb.cell (World.block_lt_of_cell? _ _ (hHeld.2.2.2.2.2.2.2.2.2.1))).trans (hHeld.2.2.2.2.2.2.2.2.2.1)
            have HS10_ := (hb.cell (World.block_lt_of_cell? _ _ (hHeld.2.2.2.2.2.2.2.2.2.2.1))).trans (hHeld.2.2.2.2.2.2.2.2.2.2.1)
            have HS11_ := (hb.cell (World.block_lt_of_cell? _ _ (hHeld.2.2.2.2.2.2.2.2.2.2.2.1))).trans (hHeld.2.2.2.2.2.2.2.2.2.2.2.1)
            have HS12_ := (hb.cell (World.block_lt_of_cell? _ _ (hHeld.2.2.2.2.2.2.2.2.2.2.2.2.1))).trans (hHeld.2.2.2.2.2.2.2.2.2.2.2.2.1)
            have HS13_ := (hb.cell (World.block_lt_of_cell? _ _ (hHeld.2.2.2.2.2.2.2.2.2.2.2.2.2))).trans (hHeld.2.2.2.2.2.2.2.2.2.2.2.2.2)
            clear hg_ hnew_
            (first | rw [← Ny219.out] at ho31 | (simp only [Int.reduceToNat] at ho31; rw [← Ny219.out] at ho31))
            have n0_ := Aside0.mk (Kd.R_elder' (by (with_reducible repeat (first | apply Kd.R_alloc | apply Kd.R_drewN | apply Kd.R_drew)); exact HO215.out) (Kd.R_base ho31) hb)
            have n1_ := Aside0.mk (Kd.R_elder' (by (with_reducible repeat (first | apply Kd.R_alloc | apply Kd.R_drewN | apply Kd.R_drew)); exact HO228.out) (Kd.R_base ho31) hb)
            have n2_ := Aside0.mk (Kd.R_lower (Kd.R_new' (Kd.R_new' ho31 (Kd.R_lt (by (with_reducible repeat (first | apply Kd.R_alloc | apply Kd.R_drewN | apply Kd.R_drew)); exact HO215.out))) (Kd.R_lt (by (with_reducible repeat (first | apply Kd.R_alloc | apply Kd.R_drewN | apply Kd.R_drew)); exact HO228.out))) (below_size (by repeat (first | (with_reducible first | exact HB.out | apply below_alloc | apply pw_below_drewN | apply below_drew1 | refine below_set ?_ (IsS41.ge HI212.out)) | exact HB.out))))
            have n3_ := Aside0.mk (IsS41.below (by repeat (first | (with_reducible first | exact HI212.out | apply IsS41.alloc | apply IsS41.drewN | apply IsS41.drew | apply IsS41.set_1) | exact HI212.out)) hb)
            have n4_ := Aside0.mk (below_step (by repeat (first | (with_reducible first | exact HB.out | apply below_alloc | apply pw_below_drewN | apply below_drew1 | refine below_set ?_ (IsS41.ge HI212.out)) | exact HB.out)) hb)
            clear HO215
            clear HO228
            clear HI212
            clear HB
            have HO215 := n0_
            have HO228 := n1_
            have HO221 := n2_
            have HI212 := n3_
            have HB := n4_
            clear n0_ n1_ n2_ n3_ n4_
            clear hb ho31
            refine hK.out _ _ ⟨HS0_, HS1_, HS2_, HS3_, HS4_, HS5_, HS6_, HS7_, HS8_, HS9_, HS10_, HS11_, HS12_, HS13_⟩ (fun hHeld => ?_)
            clear hK K
            refine norm_ (a' := ?_) ?_ ?_
            rotate_left
            ·show Act.put _ (some 17) _ = _
             simp only [Act.put, List.setIfInBounds_toArray, List.set_cons_zero, List.set_cons_succ, i64_w, i32_w]
             rfl
            refine one_ (i := 2) (N := some 19) #[true, true, true, true, true, true, true, true, true, true, false, false, false, false, false, false, false, false, false, false, false, false, false, false, false, false, false, false, false, false] rfl rfl (one_of HT_.out (by kernel_rfl)) (by decide) (fun K hK => ?_)
            refine Kd.R_append_rows_step k34 (w0 := w) w.heap.size (by rfl) (.tmp 17) (.tmp 18) 31 34 (.agg #[(.int .i64 0), (.int .i64 0), (.int .i64 0), (.int .i64 0), (.int .i64 0), (.int .i64 0), (.int .i64 0)]) 56 rfl Try.underlying31 info34 rfl (by decide) (by omega) v220 y219 t213 _ _ _ (fun k_ => some k_ ≠ (.slice (some ad225) t213.length co25 : Value).ownBlock ∧ some k_ ≠ (v227 : Value).ownBlock) (fun _ => False) rfl rfl ?aO ?aR (fun _ _ h => h) (fun _ h => h.elim) ?aF ?aB ?aS ?aL ?_
            (case aR => repeat (first | exact (Kd.R_reads' HO215.out).2.2 | (with_reducible refine Kd.C_alloc ?_ _) | (with_reducible refine Kd.C_drewN ?_ _) | (with_reducible refine Kd.C_drew ?_)))
            (case aB => exact (by repeat (first | (with_reducible first | exact HB.out | apply below_alloc | apply pw_below_drewN | apply below_drew1 | refine below_set ?_ (IsS41.ge HI212.out)) | exact HB.out)))
            (case aF => exact (fun k_ hk => ⟨Kd.fresh' (Kd.R_lt (by (with_reducible repeat (first | apply Kd.R_alloc | apply Kd.R_drewN | apply Kd.R_drew)); exact HO215.out)) k_ hk, Kd.fresh' (Kd.R_lt (by (with_reducible repeat (first | apply Kd.R_alloc | apply Kd.R_drewN | apply Kd.R_drew)); exact HO228.out)) k_ hk⟩))
            (case aO => exact (by (with_reducible repeat (first | apply Kd.R_alloc | apply Kd.R_drewN | apply Kd.R_drew)); exact Kd.R_mono HO221.out (fun _ hk => ⟨hk.1.2, hk.2⟩)))
            (case aS => exact (below_size (by repeat (first | (with_reducible first | exact HB.out | apply below_alloc | apply pw_below_drewN | apply below_drew1 | refine below_set ?_ (IsS41.ge HI212.out)) | exact HB.out))))
            (case aL => have := LMc12.out; omega)
            intro v223 w32 ho hb hg hat
            have HS0_ := cell_grown hg (hHeld.1) (by first | (rw [add_block]; exact (fun e_ => by have h_ := HO221.out.1 _ e_.symm; first | exact h_.2 rfl | exact h_.1 rfl | exact h_.1.2 rfl | exact h_.1.1.2 rfl | exact h_.2.1 rfl | exact h_.2.2 rfl | exact h_.1.2.1 rfl | exact h_.1.1.1.2 rfl | exact h_ rfl)) | (show some (Addr.add _ _).block ≠ _; rw [add_block]; exact (fun e_ => by have h_ := HO221.out.1 _ e_.symm; first | exact h_.2 rfl | exact h_.1 rfl | exact h_.1.2 rfl | exact h_.1.1.2 rfl | exact h_.2.1 rfl | exact h_.2.2 rfl | exact h_.1.2.1 rfl | exact h_.1.1.1.2 rfl | exact h_ rfl)) | exact (fun e_ => by have h_ := HO221.out.1 _ e_.symm; first | exact h_.2 rfl | exact h_.1 rfl | exact h_.1.2 rfl | exact h_.1.1.2 rfl | exact h_.2.1 rfl | exact h_.2.2 rfl | exact h_.1.2.1 rfl | exact h_.1.1.1.2 rfl | exact h_ rfl))
            have HS1_ := cell_grown hg (hHeld.2.1) (by first | (rw [add_block]; exact (fun e_ => by have h_ := HO221.out.1 _ e_.symm; first | exact h_.2 rfl | exact h_.1 rfl | exact h_.1.2 rfl | exact h_.1.1.2 rfl | exact h_.2.1 rfl | exact h_.2.2 rfl | exact h_.1.2.1 rfl | exact h_.1.1.1.2 rfl | exact h_ rfl)) | (show some (Addr.add _ _).block ≠ _; rw [add_block]; exact (fun e_ => by have h_ := HO221.out.1 _ e_.symm; first | exact h_.2 rfl | exact h_.1 rfl | exact h_.1.2 rfl | exact h_.1.1.2 rfl | exact h_.2.1 rfl | exact h_.2.2 rfl | exact h_.1.2.1 rfl | exact h_.1.1.1.2 rfl | exact h_ rfl)) | exact (fun e_ => by have h_ := HO221.out.1 _ e_.symm; first | exact h_.2 rfl | exact h_.1 rfl | exact h_.1.2 rfl | exact h_.1.1.2 rfl | exact h_.2.1 rfl | exact h_.2.2 rfl | exact h_.1.2.1 rfl | exact h_.1.1.1.2 rfl | exact h_ rfl))
            have HS2_ := cell_grown hg (hHeld.2.2.1) (by first | (rw [add_block]; exact (fun e_ => by have h_ := HO221.out.1 _ e_.symm; first | exact h_.2 rfl | exact h_.1 rfl | exact h_.1.2 rfl | exact h_.1.1.2 rfl | exact h_.2.1 rfl | exact h_.2.2 rfl | exact h_.1.2.1 rfl | exact h_.1.1.1.2 rfl | exact h_ rfl)) | (show some (Addr.add _ _).block ≠ _; rw [add_block]; exact (fun e_ => by have h_ := HO221.out.1 _ e_.symm; first | exact h_.2 rfl | exact h_.1 rfl | exact h_.1.2 rfl | exact h_.1.1.2 rfl | exact h_.2.1 rfl | exact h_.2.2 rfl | exact h_.1.2.1 rfl | exact h_.1.1.1.2 rfl | exact h_ rfl)) | exact (fun e_ => by have h_ := HO221.out.1 _ e_.symm; first | exact h_.2 rfl | exact h_.1 rfl | exact h_.1.2 rfl | exact h_.1.1.2 rfl | exact h_.2.1 rfl | exact h_.2.2 rfl | exact h_.1.2.1 rfl | exact h_.1.1.1.2 rfl | exact h_ rfl))
            have HS3_ := cell_grown hg (hHeld.2.2.2.1) (by first | (rw [add_block]; exact (fun e_ => by have h_ := HO221.out.1 _ e_.symm; first | exact h_.2 rfl | exact h_.1 rfl | exact h_.1.2 rfl | exact h_.1.1.2 rfl | exact h_.2.1 rfl | exact h_.2.2 rfl | exact h_.1.2.1 rfl | exact h_.1.1.1.2 rfl | exact h_ rfl)) | (show some (Addr.add _ _).block ≠ _; rw [add_block]; exact (fun e_ => by have h_ := HO221.out.1 _ e_.symm; first | exact h_.2 rfl | exact h_.1 rfl | exact h_.1.2 rfl | exact h_.1.1.2 rfl | exact h_.2.1 rfl | exact h_.2.2 rfl | exact h_.1.2.1 rfl | exact h_.1.1.1.2 rfl | exact h_ rfl)) | exact (fun e_ => by have h_ := HO221.out.1 _ e_.symm; first | exact h_.2 rfl | exact h_.1 rfl | exact h_.1.2 rfl | exact h_.1.1.2 rfl | exact h_.2.1 rfl | exact h_.2.2 rfl | exact h_.1.2.1 rfl | exact h_.1.1.1.2 rfl | exact h_ rfl))
            have HS4_ := cell_grown hg (hHeld.2.2.2.2.1) (by first | (rw [add_block]; exact (fun e_ => by have h_ := HO221.out.1 _ e_.symm; first | exact h_.2 rfl | exact h_.1 rfl | exact h_.1.2 rfl | exact h_.1.1.2 rfl | exact h_.2.1 rfl | exact h_.2.2 rfl | exact h_.1.2.1 rfl | exact h_.1.1.1.2 rfl | exact h_ rfl)) | (show some (Addr.add _ _).block ≠ _; rw [add_block]; exact (fun e_ => by have h_ := HO221.out.1 _ e_.symm; first | exact h_.2 rfl | exact h_.1 rfl | exact h_.1.2 rfl | exact h_.1.1.2 rfl | exact h_.2.1 rfl | exact h_.2.2 rfl | exact h_.1.2.1 rfl | exact h_.1.1.1.2 rfl | exact h_ rfl)) | exact (fun e_ => by have h_ := HO221.out.1 _ e_.symm; first | exact h_.2 rfl | exact h_.1 rfl | exact h_.1.2 rfl | exact h_.1.1.2 rfl | exact h_.2.1 rfl | exact h_.2.2 rfl | exact h_.1.2.1 rfl | exact h_.1.1.1.2 rfl | exact h_ rfl))
            have HS5_ := cell_grown hg (hHeld.2.2.2.2.2.1) (by first | (rw [add_block]; exact (fun e_ => by have h_ := HO221.out.1 _ e_.symm; first | exact h_.2 rfl | exact h_.1 rfl | exact h_.1.2 rfl | exact h_.1.1.2 rfl | exact h_.2.1 rfl | exact h_.2.2 rfl | exact h_.1.2.1 rfl | exact h_.1.1.1.2 rfl | exact h_ rfl)) | (show some (Addr.add _ _).block ≠ _; rw [add_block]; exact (fun e_ => by have h_ := HO221.out.1 _ e_.symm; first | exact h_.2 rfl | exact h_.1 rfl | exact h_.1.2 rfl | exact h_.1.1.2 rfl | exact h_.2.1 rfl | exact h_.2.2 rfl | exact h_.1.2.1 rfl | exact h_.1.1.1.2 rfl | exact h_ rfl)) | exact (fun e_ => by have h_ := HO221.out.1 _ e_.symm; first | exact h_.2 rfl | exact h_.1 rfl | exact h_.1.2 rfl | exact h_.1.1.2 rfl | exact h_.2.1 rfl | exact h_.2.2 rfl | exact h_.1.2.1 rfl | exact h_.1.1.1.2 rfl | exact h_ rfl))
            have HS6_ := cell_grown hg (hHeld.2.2.2.2.2.2.1) (by first | (rw [add_block]; exact (fun e_ => by have h_ := HO221.out.1 _ e_.symm; first | exact h_.2 rfl | exact h_.1 rfl | exact h_.1.2 rfl | exact h_.1.1.2 rfl | exact h_.2.1 rfl | exact h_.2.2 rfl | exact h_.1.2.1 rfl | exact h_.1.1.1.2 rfl | exact h_ rfl)) | (show some (Addr.add _ _).block ≠ _; rw [add_block]; exact (fun e_ => by have h_ := HO221.out.1 _ e_.symm; first | exact h_.2 rfl | exact h_.1 rfl | exact h_.1.2 rfl | exact h_.1.1.2 rfl | exact h_.2.1 rfl | exact h_.2.2 rfl | exact h_.1.2.1 rfl | exact h_.1.1.1.2 rfl | exact h_ rfl)) | exact (fun e_ => by have h_ := HO221.out.1 _ e_.symm; first | exact h_.2 rfl | exact h_.1 rfl | exact h_.1.2 rfl | exact h_.1.1.2 rfl | exact h_.2.1 rfl | exact h_.2.2 rfl | exact h_.1.2.1 rfl | exact h_.1.1.1.2 rfl | exact h_ rfl))
            have HS7_ := cell_grown hg (hHeld.2.2.2.2.2.2.2.1) (by first | (rw [add_block]; exact (fun e_ => by have h_ := HO221.out.1 _ e_.symm; first | exact h_.2 rfl | exact h_.1 rfl | exact h_.1.2 rfl | exact h_.1.1.2 rfl | exact h_.2.1 rfl | exact h_.2.2 rfl | exact h_.1.2.1 rfl | exact h_.1.1.1.2 rfl | exact h_ rfl)) | (show some (Addr.add _ _).block ≠ _; rw [add_block]; exact (fun e_ => by have h_ := HO221.out.1 _ e_.symm; first | exact h_.2 rfl | exact h_.1 rfl | exact h_.1.2 rfl | exact h_.1.1.2 rfl | exact h_.2.1 rfl | exact h_.2.2 rfl | exact h_.1.2.1 rfl | exact h_.1.1.1.2 rfl | exact h_ rfl)) | exact (fun e_ => by have h_ := HO221.out.1 _ e_.symm; first | exact h_.2 rfl | exact h_.1 rfl | exact h_.1.2 rfl | exact h_.1.1.2 rfl | exact h_.2.1 rfl | exact h_.2.2 rfl | exact h_.1.2.1 rfl | exact h_.1.1.1.2 rfl | exact h_ rfl))
            have HS8_ := cell_grown hg (hHeld.2.2.2.2.2.2.2.2.1) (by first | (rw [add_block]; exact (fun e_ => by have h_ := HO221.out.1 _ e_.symm; first | exact h_.2 rfl | exact h_.1 rfl | exact h_.1.2 rfl | exact h_.1.1.2 rfl | exact h_.2.1 rfl | exact h_.2.2 rfl | exact h_.1.2.1 rfl | exact h_.1.1.1.2 rfl | exact h_ rfl)) | (show some (Addr.add _ _).block ≠ _; rw [add_block]; exact (fun e_ => by have h_ := HO221.out.1 _ e_.symm; first | exact h_.2 rfl | exact h_.1 rfl | exact h_.1.2 rfl | exact h_.1.1.2 rfl | exact h_.2.1 rfl | exact h_.2.2 rfl | exact h_.1.2.1 rfl | exact h_.1.1.1.2 rfl | exact h_ rfl)) | exact (fun e_ => by have h_ := HO221.out.1 _ e_.symm; first | exact h_.2 rfl | exact h_.1 rfl | exact h_.1.2 rfl | exact h_.1.1.2 rfl | exact h_.2.1 rfl | exact h_.2.2 rfl | exact h_.1.2.1 rfl | exact h_.1.1.1.2 rfl | exact h_ rfl))
            have HS9_ := cell_grown hg (hHeld.2.2.2.2.2.2.2.2.2.1) (by first | (rw [add_block]; exact (fun e_ => by have h_ := HO221.out.1 _ e_.symm; first | exact h_.2 rfl | exact h_.1 rfl | exact h_.1.2 rfl | exact h_.1.1.2 rfl | exact h_.2.1 rfl | exact h_.2.2 rfl | exact h_.1.2.1 rfl | exact h_.1.1.1.2 rfl | exact h_ rfl)) | (show some (Addr.add _ _).block ≠ _; rw [add_block]; exact (fun e_ => by have h_ := HO221.out.1 _ e_.symm; first | exact h_.2 rfl | exact h_.1 rfl | exact h_.1.2 rfl | exact h_.1.1.2 rfl | exact h_.2.1 rfl | exact h_.2.2 rfl | exact h_.1.2.1 rfl | exact h_.1.1.1.2 rfl | exact h_ rfl)) | exact (fun e_ => by have h_ := HO221.out.1 _ e_.symm; first | exact h_.2 rfl | exact h_.1 rfl | exact h_.1.2 rfl | exact h_.1.1.2 rfl | exact h_.2.1 rfl | exact h_.2.2 rfl | exact h_.1.2.1 rfl | exact h_.1.1.1.2 rfl | exact h_ rfl))
            have HS10_ := cell_grown hg (hHeld.2.2.2.2.2.2.2.2.2.2.1) (by first | (rw [add_block]; exact (fun e_ => by have h_ := HO221.out.1 _ e_.symm; first | exact h_.2 rfl | exact h_.1 rfl | exact h_.1.2 rfl | exact h_.1.1.2 rfl | exact h_.2.1 rfl | exact h_.2.2 rfl | exact h_.1.2.1 rfl | exact h_.1.1.1.2 rfl | exact h_ rfl)) | (show some (Addr.add _ _).block ≠ _; rw [add_block]; exact (fun e_ => by have h_ := HO221.out.1 _ e_.symm; first | exact h_.2 rfl | exact h_.1 rfl | exact h_.1.2 rfl | exact h_.1.1.2 rfl | exact h_.2.1 rfl | exact h_.2.2 rfl | exact h_.1.2.1 rfl | exact h_.1.1.1.2 rfl | exact h_ rfl)) | exact (fun e_ => by have h_ := HO221.out.1 _ e_.symm; first | exact h_.2 rfl | exact h_.1 rfl | exact h_.1.2 rfl | exact h_.1.1.2 rfl | exact h_.2.1 rfl | exact h_.2.2 rfl | exact h_.1.2.1 rfl | exact h_.1.1.1.2 rfl | exact h_ rfl))
            have HS11_ := cell_grown hg (hHeld.2.2.2.2.2.2.2.2.2.2.2.1) (by first | (rw [add_block]; exact (fun e_ => by have h_ := HO221.out.1 _ e_.symm; first | exact h_.2 rfl | exact h_.1 rfl | exact h_.1.2 rfl | exact h_.1.1.2 rfl | exact h_.2.1 rfl | exact h_.2.2 rfl | exact h_.1.2.1 rfl | exact h_.1.1.1.2 rfl | exact h_ rfl)) | (show some (Addr.add _ _).block ≠ _; rw [add_block]; exact (fun e_ => by have h_ := HO221.out.1 _ e_.symm; first | exact h_.2 rfl | exact h_.1 rfl | exact h_.1.2 rfl | exact h_.1.1.2 rfl | exact h_.2.1 rfl | exact h_.2.2 rfl | exact h_.1.2.1 rfl | exact h_.1.1.1.2 rfl | exact h_ rfl)) | exact (fun e_ => by have h_ := HO221.out.1 _ e_.symm; first | exact h_.2 rfl | exact h_.1 rfl | exact h_.1.2 rfl | exact h_.1.1.2 rfl | exact h_.2.1 rfl | exact h_.2.2 rfl | exact h_.1.2.1 rfl | exact h_.1.1.1.2 rfl | exact h_ rfl))
            have HS12_ := cell_grown hg (hHeld.2.2.2.2.2.2.2.2.2.2.2.2.1) (by first | (rw [add_block]; exact (fun e_ => by have h_ := HO221.out.1 _ e_.symm; first | exact h_.2 rfl | exact h_.1 rfl | exact h_.1.2 rfl | exact h_.1.1.2 rfl | exact h_.2.1 rfl | exact h_.2.2 rfl | exact h_.1.2.1 rfl | exact h_.1.1.1.2 rfl | exact h_ rfl)) | (show some (Addr.add _ _).block ≠ _; rw [add_block]; exact (fun e_ => by have h_ := HO221.out.1 _ e_.symm; first | exact h_.2 rfl | exact h_.1 rfl | exact h_.1.2 rfl | exact h_.1.1.2 rfl | exact h_.2.1 rfl | exact h_.2.2 rfl | exact h_.1.2.1 rfl | exact h_.1.1.1.2 rfl | exact h_ rfl)) | exact (fun e_ => by have h_ := HO221.out.1 _ e_.symm; first | exact h_.2 rfl | exact h_.1 rfl | exact h_.1.2 rfl | exact h_.1.1.2 rfl | exact h_.2.1 rfl | exact h_.2.2 rfl | exact h_.1.2.1 rfl | exact h_.1.1.1.2 rfl | exact h_ rfl))
            have HS13_ := cell_grown hg (hHeld.2.2.2.2.2.2.2.2.2.2.2.2.2) (by first | (rw [add_block]; exact (fun e_ => by have h_ := HO221.out.1 _ e_.symm; first | exact h_.2 rfl | exact h_.1 rfl | exact h_.1.2 rfl | exact h_.1.1.2 rfl | exact h_.2.1 rfl | exact h_.2.2 rfl | exact h_.1.2.1 rfl | exact h_.1.1.1.2 rfl | exact h_ rfl)) | (show some (Addr.add _ _).block ≠ _; rw [add_block]; exact (fun e_ => by have h_ := HO221.out.1 _ e_.symm; first | exact h_.2 rfl | exact h_.1 rfl | exact h_.1.2 rfl | exact h_.1.1.2 rfl | exact h_.2.1 rfl | exact h_.2.2 rfl | exact h_.1.2.1 rfl | exact h_.1.1.1.2 rfl | exact h_ rfl)) | exact (fun e_ => by have h_ := HO221.out.1 _ e_.symm; first | exact h_.2 rfl | exact h_.1 rfl | exact h_.1.2 rfl | exact h_.1.1.2 rfl | exact h_.2.1 rfl | exact h_.2.2 rfl | exact h_.1.2.1 rfl | exact h_.1.1.1.2 rfl | exact h_ rfl))
            rw [← Ny222.out] at ho
            have n0_ := Aside0.mk (IsS41.grown (show IsS41 w _ gb212 l0 t216 from by repeat (first | (with_reducible first | exact HI212.out | apply IsS41.alloc | apply IsS41.drewN | apply IsS41.drew | apply IsS41.set_1) | exact HI212.out)) hg (IsS41.own_ne HI212.out HO221.out (by decide)))
            have n1_ := Aside0.mk (Kd.R_after (ok := (fun k_ => some k_ ≠ (v227 : Value).ownBlock)) (by (with_reducible repeat (first | apply Kd.R_alloc | apply Kd.R_drewN | apply Kd.R_drew)); exact Kd.R_mono HO215.out (fun _ hk => ⟨hk.1.2, hk.2⟩)) hg hat)
            have n2_ := Aside0.mk (Kd.R_after (ok := (fun k_ => some k_ ≠ (.slice (some ad225) t213.length co25 : Value).ownBlock)) (by (with_reducible repeat (first | apply Kd.R_alloc | apply Kd.R_drewN | apply Kd.R_drew)); exact Kd.R_mono HO228.out (fun _ hk => ⟨hk.1.2, hk.2⟩)) hg hat)
            have n3_ := Aside0.mk (hb)
            have n4_ := Aside0.mk (ho)
            clear HI212
            clear HO215
            clear HO228
            clear HB
            clear HO221
            have HI212 := n0_
            have HO215 := n1_
            have HO228 := n2_
            have HB := n3_
            have HO224 := n4_
            clear n0_ n1_ n2_ n3_ n4_
            clear ho hb hg hat
            refine hK.out _ _ ⟨HS0_, HS1_, HS2_, HS3_, HS4_, HS5_, HS6_, HS7_, HS8_, HS9_, HS10_, HS11_, HS12_, HS13_⟩ (fun hHeld => ?_)
            clear hK K
            refine norm_ (a' := ?_) ?_ ?_
            rotate_left
            ·show Act.put _ (some 19) _ = _
             simp only [Act.put, List.setIfInBounds_toArray, List.set_cons_zero, List.set_cons_succ, i64_w, i32_w]
             rfl
            exact norm_ (by simp only [putAll, Act.put, List.setIfInBounds_toArray, List.set_cons_zero, List.set_cons_succ]) (hCont (v220, v223, v227) _ ⟨hHeld, (by (with_reducible repeat (first | apply Kd.R_alloc | apply Kd.R_drewN | apply Kd.R_drew)); exact Kd.R_mono HO215.out (fun _ hk => ⟨hk.2, hk.1⟩)), (by (with_reducible repeat (first | apply Kd.R_alloc | apply Kd.R_drewN | apply Kd.R_drew)); exact HO224.out), (by (with_reducible repeat (first | apply Kd.R_alloc | apply Kd.R_drewN | apply Kd.R_drew)); exact HO228.out), (by repeat (first | (with_reducible first | exact HI212.out | apply IsS41.alloc | apply IsS41.drewN | apply IsS41.drew | apply IsS41.set_1) | exact HI212.out)), (by repeat (first | (with_reducible first | exact HB.out | apply below_alloc | apply pw_below_drewN | apply below_drew1 | refine below_set ?_ (IsS41.ge HI212.out)) | exact HB.out))⟩)
          rintro ⟨v220, v223, v227⟩ w33 ⟨hS_, h0_, h1_, h2_, h3_, h4_⟩
          have n0_ : Aside0 (Kd.R k34 34 w33 w.heap.size (fun k_ => some k_ ≠ (v223 : Value).ownBlock ∧ some k_ ≠ (v227 : Value).ownBlock) (.slice (some ad225) t213.length co25) t213) := ⟨h0_⟩
          have n1_ : Aside0 (Kd.R k34 34 w33 w.heap.size (fun k_ => some k_ ≠ (.slice (some ad225) t213.length co25 : Value).ownBlock ∧ some k_ ≠ (v227 : Value).ownBlock) v223 y222) := ⟨h1_⟩
          have n2_ : Aside0 (Kd.R k34 34 w33 w.heap.size (fun k_ => some k_ ≠ (.slice (some ad225) t213.length co25 : Value).ownBlock ∧ some k_ ≠ (v223 : Value).ownBlock) v227 y226) := ⟨h2_⟩
          have n3_ : Aside0 (IsS41 w w33 gb212 l0 t216) := ⟨h3_⟩
          have n4_ : Aside0 (Below w.heap.size w w33) := ⟨h4_⟩
          clear HO215
          clear HI212
          clear HB
          clear h0_ h1_ h2_ h3_ h4_
          have HO215 := n0_
          have HO224 := n1_
          have HO228 := n2_
          have HI212 := n3_
          have HB := n4_
          clear n0_ n1_ n2_ n3_ n4_
          have hHeld : w33.cell? (ad225.add (((ji13)).toNat * 7)) = some (.int .i64 ((rd_T34 t213 (ji13)).f0)) ∧ w33.cell? ⟨(ad225.add (((ji13)).toNat * 7)).block, (ad225.add (((ji13)).toNat * 7)).off + 1, none⟩ = some (.int .i64 ((rd_T34 t213 (ji13)).f1)) ∧ w33.cell? ⟨(ad225.add (((ji13)).toNat * 7)).block, (ad225.add (((ji13)).toNat * 7)).off + 2, none⟩ = some (.int .i64 ((rd_T34 t213 (ji13)).f2)) ∧ w33.cell? ⟨(ad225.add (((ji13)).toNat * 7)).block, (ad225.add (((ji13)).toNat * 7)).off + 3, none⟩ = some (.int .i64 ((rd_T34 t213 (ji13)).f3.f0)) ∧ w33.cell? ⟨(ad225.add (((ji13)).toNat * 7)).block, (ad225.add (((ji13)).toNat * 7)).off + 4, none⟩ = some (.int .i64 ((rd_T34 t213 (ji13)).f3.f1)) ∧ w33.cell? ⟨(ad225.add (((ji13)).toNat * 7)).block, (ad225.add (((ji13)).toNat * 7)).off + 5, none⟩ = some (.int .i64 ((rd_T34 t213 (ji13)).f3.f2)) ∧ w33.cell? ⟨(ad225.add (((ji13)).toNat * 7)).block, (ad225.add (((ji13)).toNat * 7)).off + 6, none⟩ = some (.int .i64 ((rd_T34 t213 (ji13)).f3.f3)) ∧ w33.cell? (ad225.add (((ji13)).toNat * 7)) = some (.int .i64 ((rd_T34 t213 (ji13)).f0)) ∧ w33.cell? ⟨(ad225.add (((ji13)).toNat * 7)).block, (ad225.add (((ji13)).toNat * 7)).off + 1, none⟩ = some (.int .i64 ((rd_T34 t213 (ji13)).f1)) ∧ w33.cell? ⟨(ad225.add (((ji13)).toNat * 7)).block, (ad225.add (((ji13)).toNat * 7)).off + 2, none⟩ = some (.int .i64 ((rd_T34 t213 (ji13)).f2)) ∧ w33.cell? ⟨(ad225.add (((ji13)).toNat * 7)).block, (ad225.add (((ji13)).toNat * 7)).off + 3, none⟩ = some (.int .i64 ((rd_T34 t213 (ji13)).f3.f0)) ∧ w33.cell? ⟨(ad225.add (((ji13)).toNat * 7)).block, (ad225.add (((ji13)).toNat * 7)).off + 4, none⟩ = some (.int .i64 ((rd_T34 t213 (ji13)).f3.f1)) ∧ w33.cell? ⟨(ad225.add (((ji13)).toNat * 7)).block, (ad225.add (((ji13)).toNat * 7)).off + 5, none⟩ = some (.int .i64 ((rd_T34 t213 (ji13)).f3.f2)) ∧ w33.cell? ⟨(ad225.add (((ji13)).toNat * 7)).block, (ad225.add (((ji13)).toNat * 7)).off + 6, none⟩ = some (.int .i64 ((rd_T34 t213 (ji13)).f3.f3)) := hS_
          obtain ⟨Ao35, co35, eo35⟩ := Kd.R_slice HO228.out
          (first | subst eo35 | (injection eo35 with f1_ f2_ f3_; have f4_ := f1_.symm; have f5_ := f3_.symm; clear f1_ f2_ f3_; subst f4_; subst f5_))
          refine norm_ (a' := ?_) ?_ ?_
          rotate_left
          ·simp only [putAll, Act.put, List.setIfInBounds_toArray, List.set_cons_zero, List.set_cons_succ]
           rfl
          refine one_ (i := 10) (N := some 27) #[true, true, true, true, true, true, true, true, true, true, true, false, false, false, false, false, false, false, false, false, false, false, false, false, false, false, false, false, false, false] rfl rfl (one_of HT_.out (by kernel_rfl)) (by decide) (fun K hK => ?_)
          refine Kd.R_append_rows_step k34 (w0 := w) w.heap.size (by rfl) (.tmp 19) (.tmp 26) 31 34 (.agg #[(.int .i64 0), (.int .i64 0), (.int .i64 0), (.int .i64 0), (.int .i64 0), (.int .i64 0), (.int .i64 0)]) 56 rfl Try.underlying31 info34 rfl (by decide) (by omega) v223 y222 y226 _ _ _ (fun k_ => some k_ ≠ (.slice (some ad225) t213.length co25 : Value).ownBlock ∧ some k_ ≠ (.slice Ao35 y226.length co35 : Value).ownBlock) (fun _ => False) rfl rfl ?aO ?aR (fun _ _ h => h) (fun _ h => h.elim) ?aF ?aB ?aS ?aL ?_
          (case aR => repeat (first | exact (Kd.R_reads' HO228.out).2.2 | (with_reducible refine Kd.C_alloc ?_ _) | (with_reducible refine Kd.C_drewN ?_ _) | (with_reducible refine Kd.C_drew ?_)))
          (case aB => exact (by repeat (first | (with_reducible first | exact HB.out | apply below_alloc | apply pw_below_drewN | apply below_drew1 | refine below_set ?_ (IsS41.ge HI212.out)) | exact HB.out)))
          (case aF => exact (fun k_ hk => ⟨Kd.fresh' (Kd.R_lt (by (with_reducible repeat (first | apply Kd.R_alloc | apply Kd.R_drewN | apply Kd.R_drew)); exact HO215.out)) k_ hk, Kd.fresh' (Kd.R_lt (by (with_reducible repeat (first | apply Kd.R_alloc | apply Kd.R_drewN | apply Kd.R_drew)); exact HO228.out)) k_ hk⟩))
          (case aO => exact (by (with_reducible repeat (first | apply Kd.R_alloc | apply Kd.R_drewN | apply Kd.R_drew)); exact HO224.out))
          (case aS => exact (below_size (by repeat (first | (with_reducible first | exact HB.out | apply below_alloc | apply pw_below_drewN | apply below_drew1 | refine below_set ?_ (IsS41.ge HI212.out)) | exact HB.out))))
          (case aL => have := LMc16.out; omega)
          intro v230 w34 ho hb hg hat
          have HS0_ := cell_grown hg (hHeld.1) (by first | (rw [add_block]; exact (fun e_ => by have h_ := HO224.out.1 _ e_.symm; first | exact h_.2 rfl | exact h_.1 rfl | exact h_.1.2 rfl | exact h_.1.1.2 rfl | exact h_.2.1 rfl | exact h_.2.2 rfl | exact h_.1.2.1 rfl | exact h_.1.1.1.2 rfl | exact h_ rfl)) | (show some (Addr.add _ _).block ≠ _; rw [add_block]; exact (fun e_ => by have h_ := HO224.out.1 _ e_.symm; first | exact h_.2 rfl | exact h_.1 rfl | exact h_.1.2 rfl | exact h_.1.1.2 rfl | exact h_.2.1 rfl | exact h_.2.2 rfl | exact h_.1.2.1 rfl | exact h_.1.1.1.2 rfl | exact h_ rfl)) | exact (fun e_ => by have h_ := HO224.out.1 _ e_.symm; first | exact h_.2 rfl | exact h_.1 rfl | exact h_.1.2 rfl | exact h_.1.1.2 rfl | exact h_.2.1 rfl | exact h_.2.2 rfl | exact h_.1.2.1 rfl | exact h_.1.1.1.2 rfl | exact h_ rfl))
          have HS1_ := cell_grown hg (hHeld.2.1) (by first | (rw [add_block]; exact (fun e_ => by have h_ := HO224.out.1 _ e_.symm; first | exact h_.2 rfl | exact h_.1 rfl | exact h_.1.2 rfl | exact h_.1.1.2 rfl | exact h_.2.1 rfl | exact h_.2.2 rfl | exact h_.1.2.1 rfl | exact h_.1.1.1.2 rfl | exact h_ rfl)) | (show some (Addr.add _ _).block ≠ _; rw [add_block]; exact (fun e_ => by have h_ := HO224.out.1 _ e_.symm; first | exact h_.2 rfl | exact h_.1 rfl | exact h_.1.2 rfl | exact h_.1.1.2 rfl | exact h_.2.1 rfl | exact h_.2.2 rfl | exact h_.1.2.1 rfl | exact h_.1.1.1.2 rfl | exact h_ rfl)) | exact (fun e_ => by have h_ := HO224.out.1 _ e_.symm; first | exact h_.2 rfl | exact h_.1 rfl | exact h_.1.2 rfl | exact h_.1.1.2 rfl | exact h_.2.1 rfl | exact h_.2.2 rfl | exact h_.1.2.1 rfl | exact h_.1.1.1.2 rfl | exact h_ rfl))
          have HS2_ := cell_grown hg (hHeld.2.2.1) (by first | (rw [add_block]; exact (fun e_ => by have h_ := HO224.out.1 _ e_.symm; first | exact h_.2 rfl | exact h_.1 rfl | exact h_.1.2 rfl | exact h_.1.1.2 rfl | exact h_.2.1 rfl | exact h_.2.2 rfl | exact h_.1.2.1 rfl | exact h_.1.1.1.2 rfl | exact h_ rfl)) | (show some (Addr.add _ _).block ≠ _; rw [add_block]; exact (fun e_ => by have h_ := HO224.out.1 _ e_.symm; first | exact h_.2 rfl | exact h_.1 rfl | exact h_.1.2 rfl | exact h_.1.1.2 rfl | exact h_.2.1 rfl | exact h_.2.2 rfl | exact h_.1.2.1 rfl | exact h_.1.1.1.2 rfl | exact h_ rfl)) | exact (fun e_ => by have h_ := HO224.out.1 _ e_.symm; first | exact h_.2 rfl | exact h_.1 rfl | exact h_.1.2 rfl | exact h_.1.1.2 rfl | exact h_.2.1 rfl | exact h_.2.2 rfl | exact h_.1.2.1 rfl | exact h_.1.1.1.2 rfl | exact h_ rfl))
          have HS3_ := cell_grown hg (hHeld.2.2.2.1) (by first | (rw [add_block]; exact (fun e_ => by have h_ := HO224.out.1 _ e_.symm; first | exact h_.2 rfl | exact h_.1 rfl | exact h_.1.2 rfl | exact h_.1.1.2 rfl | exact h_.2.1 rfl | exact h_.2.2 rfl | exact h_.1.2.1 rfl | exact h_.1.1.1.2 rfl | exact h_ rfl)) | (show some (Addr.add _ _).block ≠ _; rw [add_block]; exact (fun e_ => by have h_ := HO224.out.1 _ e_.symm; first | exact h_.2 rfl | exact h_.1 rfl | exact h_.1.2 rfl | exact h_.1.1.2 rfl | exact h_.2.1 rfl | exact h_.2.2 rfl | exact h_.1.2.1 rfl | exact h_.1.1.1.2 rfl | exact h_ rfl)) | exact (fun e_ => by have h_ := HO224.out.1 _ e_.symm; first | exact h_.2 rfl | exact h_.1 rfl | exact h_.1.2 rfl | exact h_.1.1.2 rfl | exact h_.2.1 rfl | exact h_.2.2 rfl | exact h_.1.2.1 rfl | exact h_.1.1.1.2 rfl | exact h_ rfl))
          have HS4_ := cell_grown hg (hHeld.2.2.2.2.1) (by first | (rw [add_block]; exact (fun e_ => by have h_ := HO224.out.1 _ e_.symm; first | exact h_.2 rfl | exact h_.1 rfl | exact h_.1.2 rfl | exact h_.1.1.2 rfl | exact h_.2.1 rfl | exact h_.2.2 rfl | exact h_.1.2.1 rfl | exact h_.1.1.1.2 rfl | exact h_ rfl)) | (show some (Addr.add _ _).block ≠ _; rw [add_block]; exact (fun e_ => by have h_ := HO224.out.1 _ e_.symm; first | exact h_.2 rfl | exact h_.1 rfl | exact h_.1.2 rfl | exact h_.1.1.2 rfl | exact h_.2.1 rfl | exact h_.2.2 rfl | exact h_.1.2.1 rfl | exact h_.1.1.1.2 rfl | exact h_ rfl)) | exact (fun e_ => by have h_ := HO224.out.1 _ e_.symm; first | exact h_.2 rfl | exact h_.1 rfl | exact h_.1.2 rfl | exact h_.1.1.2 rfl | exact h_.2.1 rfl | exact h_.2.2 rfl | exact h_.1.2.1 rfl | exact h_.1.1.1.2 rfl | exact h_ rfl))
          have HS5_ := cell_grown hg (hHeld.2.2.2.2.2.1) (by first | (rw [add_block]; exact (fun e_ => by have h_ := HO224.out.1 _ e_.symm; first | exact h_.2 rfl | exact h_.1 rfl | exact h_.1.2 rfl | exact h_.1.1.2 rfl | exact h_.2.1 rfl | exact h_.2.2 rfl | exact h_.1.2.1 rfl | exact h_.1.1.1.2 rfl | exact h_ rfl)) | (show some (Addr.add _ _).block ≠ _; rw [add_block]; exact (fun e_ => by have h_ := HO224.out.1 _ e_.symm; first | exact h_.2 rfl | exact h_.1 rfl | exact h_.1.2 rfl | exact h_.1.1.2 rfl | exact h_.2.1 rfl | exact h_.2.2 rfl | exact h_.1.2.1 rfl | exact h_.1.1.1.2 rfl | exact h_ rfl)) | exact (fun e_ => by have h_ := HO224.out.1 _ e_.symm; first | exact h_.2 rfl | exact h_.1 rfl | exact h_.1.2 rfl | exact h_.1.1.2 rfl | exact h_.2.1 rfl | exact h_.2.2 rfl | exact h_.1.2.1 rfl | exact h_.1.1.1.2 rfl | exact h_ rfl))
          have HS6_ := cell_grown hg (hHeld.2.2.2.2.2.2.1) (by first | (rw [add_block]; exact (fun e_ => by have h_ := HO224.out.1 _ e_.symm; first | exact h_.2 rfl | exact h_.1 rfl | exact h_.1.2 rfl | exact h_.1.1.2 rfl | exact h_.2.1 rfl | exact h_.2.2 rfl | exact h_.1.2.1 rfl | exact h_.1.1.1.2 rfl | exact h_ rfl)) | (show some (Addr.add _ _).block ≠ _; rw [add_block]; exact (fun e_ => by have h_ := HO224.out.1 _ e_.symm; first | exact h_.2 rfl | exact h_.1 rfl | exact h_.1.2 rfl | exact h_.1.1.2 rfl | exact h_.2.1 rfl | exact h_.2.2 rfl | exact h_.1.2.1 rfl | exact h_.1.1.1.2 rfl | exact h_ rfl)) | exact (fun e_ => by have h_ := HO224.out.1 _ e_.symm; first | exact h_.2 rfl | exact h_.1 rfl | exact h_.1.2 rfl | exact h_.1.1.2 rfl | exact h_.2.1 rfl | exact h_.2.2 rfl | exact h_.1.2.1 rfl | exact h_.1.1.1.2 rfl | exact h_ rfl))
          have HS7_ := cell_grown hg (hHeld.2.2.2.2.2.2.2.1) (by first | (rw [add_block]; exact (fun e_ => by have h_ := HO224.out.1 _ e_.symm; first | exact h_.2 rfl | exact h_.1 rfl | exact h_.1.2 rfl | exact h_.1.1.2 rfl | exact h_.2.1 rfl | exact h_.2.2 rfl | exact h_.1.2.1 rfl | exact h_.1.1.1.2 rfl | exact h_ rfl)) | (show some (Addr.add _ _).block ≠ _; rw [add_block]; exact (fun e_ => by have h_ := HO224.out.1 _ e_.symm; first | exact h_.2 rfl | exact h_.1 rfl | exact h_.1.2 rfl | exact h_.1.1.2 rfl | exact h_.2.1 rfl | exact h_.2.2 rfl | exact h_.1.2.1 rfl | exact h_.1.1.1.2 rfl | exact h_ rfl)) | exact (fun e_ => by have h_ := HO224.out.1 _ e_.symm; first | exact h_.2 rfl | exact h_.1 rfl | exact h_.1.2 rfl | exact h_.1.1.2 rfl | exact h_.2.1 rfl | exact h_.2.2 rfl | exact h_.1.2.1 rfl | exact h_.1.1.1.2 rfl | exact h_ rfl))
          have HS8_ := cell_grown hg (hHeld.2.2.2.2.2.2.2.2.1) (by first | (rw [add_block]; exact (fun e_ => by have h_ := HO224.out.1 _ e_.symm; first | exact h_.2 rfl | exact h_.1 rfl | exact h_.1.2 rfl | exact h_.1.1.2 rfl | exact h_.2.1 rfl | exact h_.2.2 rfl | exact h_.1.2.1 rfl | exact h_.1.1.1.2 rfl | exact h_ rfl)) | (show some (Addr.add _ _).block ≠ _; rw [add_block]; exact (fun e_ => by have h_ := HO224.out.1 _ e_.symm; first | exact h_.2 rfl | exact h_.1 rfl | exact h_.1.2 rfl | exact h_.1.1.2 rfl | exact h_.2.1 rfl | exact h_.2.2 rfl | exact h_.1.2.1 rfl | exact h_.1.1.1.2 rfl | exact h_ rfl)) | exact (fun e_ => by have h_ := HO224.out.1 _ e_.symm; first | exact h_.2 rfl | exact h_.1 rfl | exact h_.1.2 rfl | exact h_.1.1.2 rfl | exact h_.2.1 rfl | exact h_.2.2 rfl | exact h_.1.2.1 rfl | exact h_.1.1.1.2 rfl | exact h_ rfl))
          have HS9_ := cell_grown hg (hHeld.2.2.2.2.2.2.2.2.2.1) (by first | (rw [add_block]; exact (fun e_ => by have h_ := HO224.out.1 _ e_.symm; first | exact h_.2 rfl | exact h_.1 rfl | exact h_.1.2 rfl | exact h_.1.1.2 rfl | exact h_.2.1 rfl | exact h_.2.2 rfl | exact h_.1.2.1 rfl | exact h_.1.1.1.2 rfl | exact h_ rfl)) | (show some (Addr.add _ _).block ≠ _; rw [add_block]; exact (fun e_ => by have h_ := HO224.out.1 _ e_.symm; first | exact h_.2 rfl | exact h_.1 rfl | exact h_.1.2 rfl | exact h_.1.1.2 rfl | exact h_.2.1 rfl | exact h_.2.2 rfl | exact h_.1.2.1 rfl | exact h_.1.1.1.2 rfl | exact h_ rfl)) | exact (fun e_ => by have h_ := HO224.out.1 _ e_.symm; first | exact h_.2 rfl | exact h_.1 rfl | exact h_.1.2 rfl | exact h_.1.1.2 rfl | exact h_.2.1 rfl | exact h_.2.2 rfl | exact h_.1.2.1 rfl | exact h_.1.1.1.2 rfl | exact h_ rfl))
          have HS10_ := cell_grown hg (hHeld.2.2.2.2.2.2.2.2.2.2.1) (by first | (rw [add_block]; exact (fun e_ => by have h_ := HO224.out.1 _ e_.symm; first | exact h_.2 rfl | exact h_.1 rfl | exact h_.1.2 rfl | exact h_.1.1.2 rfl | exact h_.2.1 rfl | exact h_.2.2 rfl | exact h_.1.2.1 rfl | exact h_.1.1.1.2 rfl | exact h_ rfl)) | (show some (Addr.add _ _).block ≠ _; rw [add_block]; exact (fun e_ => by have h_ := HO224.out.1 _ e_.symm; first | exact h_.2 rfl | exact h_.1 rfl | exact h_.1.2 rfl | exact h_.1.1.2 rfl | exact h_.2.1 rfl | exact h_.2.2 rfl | exact h_.1.2.1 rfl | exact h_.1.1.1.2 rfl | exact h_ rfl)) | exact (fun e_ => by have h_ := HO224.out.1 _ e_.symm; first | exact h_.2 rfl | exact h_.1 rfl | exact h_.1.2 rfl | exact h_.1.1.2 rfl | exact h_.2.1 rfl | exact h_.2.2 rfl | exact h_.1.2.1 rfl | exact h_.1.1.1.2 rfl | exact h_ rfl))
          have HS11_ := cell_grown hg (hHeld.2.2.2.2.2.2.2.2.2.2.2.1) (by first | (rw [add_block]; exact (fun e_ => by have h_ := HO224.out.1 _ e_.symm; first | exact h_.2 rfl | exact h_.1 rfl | exact h_.1.2 rfl | exact h_.1.1.2 rfl | exact h_.2.1 rfl | exact h_.2.2 rfl | exact h_.1.2.1 rfl | exact h_.1.1.1.2 rfl | exact h_ rfl)) | (show some (Addr.add _ _).block ≠ _; rw [add_block]; exact (fun e_ => by have h_ := HO224.out.1 _ e_.symm; first | exact h_.2 rfl | exact h_.1 rfl | exact h_.1.2 rfl | exact h_.1.1.2 rfl | exact h_.2.1 rfl | exact h_.2.2 rfl | exact h_.1.2.1 rfl | exact h_.1.1.1.2 rfl | exact h_ rfl)) | exact (fun e_ => by have h_ := HO224.out.1 _ e_.symm; first | exact h_.2 rfl | exact h_.1 rfl | exact h_.1.2 rfl | exact h_.1.1.2 rfl | exact h_.2.1 rfl | exact h_.2.2 rfl | exact h_.1.2.1 rfl | exact h_.1.1.1.2 rfl | exact h_ rfl))
          have HS12_ := cell_grown hg (hHeld.2.2.2.2.2.2.2.2.2.2.2.2.1) (by first | (rw [add_block]; exact (fun e_ => by have h_ := HO224.out.1 _ e_.symm; first | exact h_.2 rfl | exact h_.1 rfl | exact h_.1.2 rfl | exact h_.1.1.2 rfl | exact h_.2.1 rfl | exact h_.2.2 rfl | exact h_.1.2.1 rfl | exact h_.1.1.1.2 rfl | exact h_ rfl)) | (show some (Addr.add _ _).block ≠ _; rw [add_block]; exact (fun e_ => by have h_ := HO224.out.1 _ e_.symm; first | exact h_.2 rfl | exact h_.1 rfl | exact h_.1.2 rfl | exact h_.1.1.2 rfl | exact h_.2.1 rfl | exact h_.2.2 rfl | exact h_.1.2.1 rfl | exact h_.1.1.1.2 rfl | exact h_ rfl)) | exact (fun e_ => by have h_ := HO224.out.1 _ e_.symm; first | exact h_.2 rfl | exact h_.1 rfl | exact h_.1.2 rfl | exact h_.1.1.2 rfl | exact h_.2.1 rfl | exact h_.2.2 rfl | exact h_.1.2.1 rfl | exact h_.1.1.1.2 rfl | exact h_ rfl))
          have HS13_ := cell_grown hg (hHeld.2.2.2.2.2.2.2.2.2.2.2.2.2) (by first | (rw [add_block]; exact (fun e_ => by have h_ := HO224.out.1 _ e_.symm; first | exact h_.2 rfl | exact h_.1 rfl | exact h_.1.2 rfl | exact h_.1.1.2 rfl | exact h_.2.1 rfl | exact h_.2.2 rfl | exact h_.1.2.1 rfl | exact h_.1.1.1.2 rfl | exact h_ rfl)) | (show some (Addr.add _ _).block ≠ _; rw [add_block]; exact (fun e_ => by have h_ := HO224.out.1 _ e_.symm; first | exact h_.2 rfl | exact h_.1 rfl | exact h_.1.2 rfl | exact h_.1.1.2 rfl | exact h_.2.1 rfl | exact h_.2.2 rfl | exact h_.1.2.1 rfl | exact h_.1.1.1.2 rfl | exact h_ rfl)) | exact (fun e_ => by have h_ := HO224.out.1 _ e_.symm; first | exact h_.2 rfl | exact h_.1 rfl | exact h_.1.2 rfl | exact h_.1.1.2 rfl | exact h_.2.1 rfl | exact h_.2.2 rfl | exact h_.1.2.1 rfl | exact h_.1.1.1.2 rfl | exact h_ rfl))
          rw [← Ny229.out] at ho
          have n0_ := Aside0.mk (IsS41.grown (show IsS41 w _ gb212 l0 t216 from by repeat (first | (with_reducible first | exact HI212.out | apply IsS41.alloc | apply IsS41.drewN | apply IsS41.drew | apply IsS41.set_1) | exact HI212.out)) hg (IsS41.own_ne HI212.out HO224.out (by decide)))
          have n1_ := Aside0.mk (Kd.R_after (ok := (fun k_ => some k_ ≠ (.slice Ao35 y226.length co35 : Value).ownBlock)) (by (with_reducible repeat (first | apply Kd.R_alloc | apply Kd.R_drewN | apply Kd.R_drew)); exact Kd.R_mono HO215.out (fun _ hk => ⟨hk.2, hk.1⟩)) hg hat)
          have n2_ := Aside0.mk (Kd.R_after (ok := (fun k_ => some k_ ≠ (.slice (some ad225) t213.length co25 : Value).ownBlock)) (by (with_reducible repeat (first | apply Kd.R_alloc | apply Kd.R_drewN | apply Kd.R_drew)); exact HO228.out) hg hat)
          have n3_ := Aside0.mk (hb)
          have n4_ := Aside0.mk (ho)
          clear HI212
          clear HO215
          clear HO228
          clear HB
          clear HO224
          have HI212 := n0_
          have HO215 := n1_
          have HO228 := n2_
          have HB := n3_
          have HO231 := n4_
          clear n0_ n1_ n2_ n3_ n4_
          clear ho hb hg hat
          obtain ⟨Ao36, co36, eo36⟩ := Kd.R_slice HO231.out
          (first | subst eo36 | (injection eo36 with f1_ f2_ f3_; have f4_ := f1_.symm; have f5_ := f3_.symm; clear f1_ f2_ f3_; subst f4_; subst f5_))
          refine hK.out _ _ ⟨HS0_, HS1_, HS2_, HS3_, HS4_, HS5_, HS6_, HS7_, HS8_, HS9_, HS10_, HS11_, HS12_, HS13_⟩ (fun hHeld => ?_)
          clear hK K
          refine norm_ (a' := ?_) ?_ ?_
          rotate_left
          ·show Act.put _ (some 27) _ = _
           simp only [Act.put, List.setIfInBounds_toArray, List.set_cons_zero, List.set_cons_succ, i64_w, i32_w]
           rfl
          refine one_ (i := 11) (N := some 28) #[true, true, true, true, true, true, true, true, true, true, true, true, false, false, false, false, false, false, false, false, false, false, false, false, false, false, false, false, false, false] rfl rfl (one_of HT_.out (by kernel_rfl)) (by decide) (fun K hK => ?_)
          refine goes_ Try.func22 (by kernel_rfl) rfl #[.slice Ao36 y229.length co36] (by rfl) rfl rfl (by (try simp only [List.map_toArray, List.map_cons, List.map_nil]); first | done | rfl | (simp only [List.length_drop, List.length_take]; rfl)) ?_
          with_reducible refine (key_Right.calls k _ _ y229 false _ ?side1 ?side2 A17.out).mono ?_
          (case side1 => repeat (first | exact (Kd.R_reads' HO231.out).2.2 | (with_reducible refine Kd.C_alloc ?_ _) | (with_reducible refine Kd.C_drewN ?_ _) | (with_reducible refine Kd.C_drew ?_)))
          (case side2 => exact (Kd.R_reads' HO231.out).2.1)
          rintro e w37 ⟨rfl, hb⟩
          have HS0_ := (hb.cell (World.block_lt_of_cell? _ _ (hHeld.1))).trans (hHeld.1)
          have HS1_ := (hb.cell (World.block_lt_of_cell? _ _ (hHeld.2.1))).trans (hHeld.2.1)
          have HS2_ := (hb.cell (World.block_lt_of_cell? _ _ (hHeld.2.2.1))).trans (hHeld.2.2.1)
          have HS3_ := (hb.cell (World.block_lt_of_cell? _ _ (hHeld.2.2.2.1))).trans (hHeld.2.2.2.1)
          have HS4_ := (hb.cell (World.block_lt_of_cell? _ _ (hHeld.2.2.2.2.1))).trans (hHeld.2.2.2.2.1)
          have HS5_ := (hb.cell (World.block_lt_of_cell? _ _ (hHeld.2.2.2.2.2.1))).trans (hHeld.2.2.2.2.2.1)
          have HS6_ := (hb.cell (World.block_lt_of_cell? _ _ (hHeld.2.2.2.2.2.2.1))).trans (hHeld.2.2.2.2.2.2.1)
          have HS7_ := (hb.cell (World.block_lt_of_cell? _ _ (hHeld.2.2.2.2.2.2.2.1))).trans (hHeld.2.2.2.2.2.2.2.1)
          have HS8_ := (hb.cell (World.block_lt_of_cell? _ _ (hHeld.2.2.2.2.2.2.2.2.1))).trans (hHeld.2.2.2.2.2.2.2.2.1)
          have HS9_ := (hb.cell (World.block_lt_of_cell? _ _ (hHeld.2.2.2.2.2.2.2.2.2.1))).trans (hHeld.2.2.2.2.2.2.2.2.2.1)
          have HS10_ := (hb.cell (World.block_lt_of_cell? _ _ (hHeld.2.2.2.2.2.2.2.2.2.2.1))).trans (hHeld.2.2.2.2.2.2.2.2.2.2.1)
          have HS11_ := (hb.cell (World.block_lt_of_cell? _ _ (hHeld.2.2.2.2.2.2.2.2.2.2.2.1))).trans (hHeld.2.2.2.2.2.2.2.2.2.2.2.1)
          have HS12_ := (hb.cell (World.block_lt_of_cell? _ _ (hHeld.2.2.2.2.2.2.2.2.2.2.2.2.1))).trans (hHeld.2.2.2.2.2.2.2.2.2.2.2.2.1)
          have HS13_ := (hb.cell (World.block_lt_of_cell? _ _ (hHeld.2.2.2.2.2.2.2.2.2.2.2.2.2))).trans (hHeld.2.2.2.2.2.2.2.2.2.2.2.2.2)
          refine ⟨_, rfl, ?_⟩
          have n0_ := Aside0.mk (Kd.R_below (by (with_reducible repeat (first | apply Kd.R_alloc | apply Kd.R_drewN | apply Kd.R_drew)); exact HO215.out) hb)
          have n1_ := Aside0.mk (Kd.R_below (by (with_reducible repeat (first | apply Kd.R_alloc | apply Kd.R_drewN | apply Kd.R_drew)); exact HO228.out) hb)
          have n2_ := Aside0.mk (Kd.R_below (by (with_reducible repeat (first | apply Kd.R_alloc | apply Kd.R_drewN | apply Kd.R_drew)); exact HO231.out) hb)
          have n3_ := Aside0.mk (IsS41.below (by repeat (first | (with_reducible first | exact HI212.out | apply IsS41.alloc | apply IsS41.drewN | apply IsS41.drew | apply IsS41.set_1) | exact HI212.out)) hb)
          have n4_ := Aside0.mk (below_step (by repeat (first | (with_reducible first | exact HB.out | apply below_alloc | apply pw_below_drewN | apply below_drew1 | refine below_set ?_ (IsS41.ge HI212.out)) | exact HB.out)) hb)
          clear HO215
          clear HO228
          clear HO231
          clear HI212
          clear HB
          have HO215 := n0_
          have HO228 := n1_
          have HO231 := n2_
          have HI212 := n3_
          have HB := n4_
          clear n0_ n1_ n2_ n3_ n4_
          (try clear hb)
          (try clear hb2)
          (try clear hk)
          (try clear hi)
          refine hK.out _ _ ⟨HS0_, HS1_, HS2_, HS3_, HS4_, HS5_, HS6_, HS7_, HS8_, HS9_, HS10_, HS11_, HS12_, HS13_⟩ (fun hHeld => ?_)
          clear hK K
          refine norm_ (a' := ?_) ?_ ?_
          rotate_left
          ·show Act.put _ (some 28) _ = _
           simp only [Act.put, List.setIfInBounds_toArray, List.set_cons_zero, List.set_cons_succ, i64_w, i32_w]
           rfl
          refine pure_ (i := 12) (N := some 29) (v := ?_) (a' := ?_) #[true, true, true, true, true, true, true, true, true, true, true, true, true, false, false, false, false, false, false, false, false, false, false, false, false, false, false, false, false, false] rfl rfl (any_of HT_.out (by kernel_rfl)) (fun _ _ _ h => h) (Or.inl ⟨by rfl, ?_⟩) ?_ ?_
          rotate_left
          ·intro w'
           go_simp
           with_reducible rfl
          rotate_left
          ·simp only [Act.put, List.setIfInBounds_toArray, List.set_cons_zero, List.set_cons_succ, i64_w, i32_w]
           rfl
          refine pure_ (i := 13) (N := some 30) (v := ?_) (a' := ?_) #[true, true, true, true, true, true, true, true, true, true, true, true, true, true, false, false, false, false, false, false, false, false, false, false, false, false, false, false, false, false] rfl rfl (any_of HT_.out (by kernel_rfl)) (fun _ _ _ h => h) (Or.inl ⟨by rfl, ?_⟩) ?_ ?_
          rotate_left
          ·intro w'
           go_simp
           with_reducible rfl
          rotate_left
          ·simp only [Act.put, List.setIfInBounds_toArray, List.set_cons_zero, List.set_cons_succ, i64_w, i32_w]
           rfl
          refine pure_ (i := 14) (N := some 31) (v := ?_) (a' := ?_) #[true, true, true, true, true, true, true, true, true, true, true, true, true, true, true, false, false, false, false, false, false, false, false, false, false, false, false, false, false, false] rfl rfl (any_of HT_.out (by kernel_rfl)) (fun _ _ _ h => h) (Or.inl ⟨by rfl, ?_⟩) ?_ ?_
          rotate_left
          ·intro w'
           go_simp
           with_reducible rfl
          rotate_left
          ·simp only [Act.put, List.setIfInBounds_toArray, List.set_cons_zero, List.set_cons_succ, i64_w, i32_w]
           rfl
          refine pure_ (i := 15) (N := some 32) (v := ?_) (a' := ?_) #[true, true, true, true, true, true, true, true, true, true, true, true, true, true, true, true, false, false, false, false, false, false, false, false, false, false, false, false, false, false] rfl rfl (any_of HT_.out (by kernel_rfl)) (fun _ _ _ h => h) (Or.inl ⟨by rfl, ?_⟩) ?_ ?_
          rotate_left
          ·intro w'
           go_simp
           with_reducible rfl
          rotate_left
          ·simp only [Act.put, List.setIfInBounds_toArray, List.set_cons_zero, List.set_cons_succ, i64_w, i32_w]
           rfl
          refine pure_ (i := 16) (N := some 33) (v := ?_) (a' := ?_) #[true, true, true, true, true, true, true, true, true, true, true, true, true, true, true, true, true, false, false, false, false, false, false, false, false, false, false, false, false, false] rfl rfl (any_of HT_.out (by kernel_rfl)) (fun _ _ _ h => h) (Or.inl ⟨by rfl, ?_⟩) ?_ ?_
          rotate_left
          ·intro w'
           go_simp
           with_reducible rfl
          rotate_left
          ·simp only [Act.put, List.setIfInBounds_toArray, List.set_cons_zero, List.set_cons_succ, i64_w, i32_w]
           rfl
          refine pure_ (i := 17) (N := some 34) (v := ?_) (a' := ?_) #[true, true, true, true, true, true, true, true, true, true, true, true, true, true, true, true, true, true, false, false, false, false, false, false, false, false, false, false, false, false] rfl rfl (any_of HT_.out (by kernel_rfl)) (fun _ _ _ h => h) (Or.inl ⟨by rfl, ?_⟩) ?_ ?_
          rotate_left
          ·intro w'
           go_simp
           with_reducible rfl
          rotate_left
          ·simp only [Act.put, List.setIfInBounds_toArray, List.set_cons_zero, List.set_cons_succ, i64_w, i32_w]
           rfl
          refine pure_ (i := 18) (N := some 35) (v := ?_) (a' := ?_) #[true, true, true, true, true, true, true, true, true, true, true, true, true, true, true, true, true, true, true, false, false, false, false, false, false, false, false, false, false, false] rfl rfl (any_of HT_.out (by kernel_rfl)) (fun _ _ _ h => h) (Or.inl ⟨by rfl, ?_⟩) ?_ ?_
          rotate_left
          ·intro w'
           go_simp
           with_reducible rfl
          rotate_left
          ·simp only [Act.put, List.setIfInBounds_toArray, List.set_cons_zero, List.set_cons_succ, i64_w, i32_w]
           rfl
          refine pure_ (i := 21) (N := some 38) (v := ?_) (a' := ?_) #[true, true, true, true, true, true, true, true, true, true, true, true, true, true, true, true, true, true, true, false, false, true, false, false, false, false, false, false, false, false] rfl rfl (any_of HT_.out (by kernel_rfl)) (fun _ _ _ h => h) (Or.inl ⟨by rfl, ?_⟩) ?_ ?_
          rotate_left
          ·intro w'
           go_simp
           with_reducible rfl
          rotate_left
          ·simp only [Act.put, List.setIfInBounds_toArray, List.set_cons_zero, List.set_cons_succ, i64_w, i32_w]
           rfl
          refine take_ (i := 19) (N := some 36) (v := ?_) (a' := ?_) #[true, true, true, true, true, true, true, true, true, true, true, true, true, true, true, true, true, true, true, true, false, true, false, false, false, false, false, false, false, false] rfl rfl (take_ofW HT_.out HW_.out (by kernel_rfl)) (fun _ _ _ h => h) (Or.inl ⟨by rfl, ?_⟩) hHeld ?_ ?_
          rotate_left
          ·rintro w' ⟨s0, s1, s2, s3, s4, s5, s6, s7, s8, s9, s10, s11, s12, s13⟩
           go_simp
           with_reducible rfl
          rotate_left
          ·simp only [Act.put, List.setIfInBounds_toArray, List.set_cons_zero, List.set_cons_succ, i64_w, i32_w]
           rfl
          refine one_ (i := 20) (N := some 37) #[true, true, true, true, true, true, true, true, true, true, true, true, true, true, true, true, true, true, true, true, true, true, false, false, false, false, false, false, false, false] rfl rfl (one_of HT_.out (by kernel_rfl)) (by decide) (fun K hK => ?_)
          refine Kd.R_lit_step k34 _ 34 ?hg (N := 37) ?hd (xs := ([(⟨(rd_T34 t213 (ji13)).f0, (rd_T34 t213 (ji13)).f1, (rd_T34 t213 (ji13)).f2, (⟨(rd_T34 t213 (ji13)).f3.f0, (rd_T34 t213 (ji13)).f3.f1, (rd_T34 t213 (ji13)).f3.f2, (rd_T34 t213 (ji13)).f3.f3⟩ : S23)⟩ : S34)] : List (S34))) (inner := [.int .i64 ((rd_T34 t213 (ji13)).f0), .int .i64 ((rd_T34 t213 (ji13)).f1), .int .i64 ((rd_T34 t213 (ji13)).f2), .int .i64 ((rd_T34 t213 (ji13)).f3.f0), .int .i64 ((rd_T34 t213 (ji13)).f3.f1), .int .i64 ((rd_T34 t213 (ji13)).f3.f2), .int .i64 ((rd_T34 t213 (ji13)).f3.f3)]) (ok := fun _ => True) (okp := fun _ => True) ?hr ?hp (fun _ hk => hk) trivial (Below.refl _ _) (Nat.le_refl _) (by simp) ?_; (case hd => rfl); (case hg => rfl); (case hr => first | (go_simp; done) | (go_simp; rfl)); (case hp => exact (Reps.c7 (show Kd.M k34 _ _ _ (⟨(rd_T34 t213 (ji13)).f0, (rd_T34 t213 (ji13)).f1, (rd_T34 t213 (ji13)).f2, (⟨(rd_T34 t213 (ji13)).f3.f0, (rd_T34 t213 (ji13)).f3.f1, (rd_T34 t213 (ji13)).f3.f2, (rd_T34 t213 (ji13)).f3.f3⟩ : S23)⟩ : S34) [.int .i64 ((rd_T34 t213 (ji13)).f0), .int .i64 ((rd_T34 t213 (ji13)).f1), .int .i64 ((rd_T34 t213 (ji13)).f2), .int .i64 ((rd_T34 t213 (ji13)).f3.f0), .int .i64 ((rd_T34 t213 (ji13)).f3.f1), .int .i64 ((rd_T34 t213 (ji13)).f3.f2), .int .i64 ((rd_T34 t213 (ji13)).f3.f3)] from (k34_mkM _ _ _ (⟨(rd_T34 t213 (ji13)).f0, (rd_T34 t213 (ji13)).f1, (rd_T34 t213 (ji13)).f2, (⟨(rd_T34 t213 (ji13)).f3.f0, (rd_T34 t213 (ji13)).f3.f1, (rd_T34 t213 (ji13)).f3.f2, (rd_T34 t213 (ji13)).f3.f3⟩ : S23)⟩ : S34) )) (Reps.none _ _)))
          intro v235 w38 ho39 hb hg_ hnew_
          have HS0_ := (hb.cell (World.block_lt_of_cell? _ _ (hHeld.1))).trans (hHeld.1)
          have HS1_ := (hb.cell (World.block_lt_of_cell? _ _ (hHeld.2.1))).trans (hHeld.2.1)
          have HS2_ := (hb.cell (World.block_lt_of_cell? _ _ (hHeld.2.2.1))).trans (hHeld.2.2.1)
          have HS3_ := (hb.cell (World.block_lt_of_cell? _ _ (hHeld.2.2.2.1))).trans (hHeld.2.2.2.1)
          have HS4_ := (hb.cell (World.block_lt_of_cell? _ _ (hHeld.2.2.2.2.1))).trans (hHeld.2.2.2.2.1)
          have HS5_ := (hb.cell (World.block_lt_of_cell? _ _ (hHeld.2.2.2.2.2.1))).trans (hHeld.2.2.2.2.2.1)
          have HS6_ := (hb.cell (World.block_lt_of_cell? _ _ (hHeld.2.2.2.2.2.2.1))).trans (hHeld.2.2.2.2.2.2.1)
          have HS7_ := (hb.cell (World.block_lt_of_cell? _ _ (hHeld.2.2.2.2.2.2.2.1))).trans (hHeld.2.2.2.2.2.2.2.1)
          have HS8_ := (hb.cell (World.block_lt_of_cell? _ _ (hHeld.2.2.2.2.2.2.2.2.1))).trans (hHeld.2.2.2.2.2.2.2.2.1)
          have HS9_ := (hb.cell (World.block_lt_of_cell? _ _ (hHeld.2.2.2.2.2.2.2.2.2.1))).trans (hHeld.2.2.2.2.2.2.2.2.2.1)
          have HS10_ := (hb.cell (World.block_lt_of_cell? _ _ (hHeld.2.2.2.2.2.2.2.2.2.2.1))).trans (hHeld.2.2.2.2.2.2.2.2.2.2.1)
          have HS11_ := (hb.cell (World.block_lt_of_cell? _ _ (hHeld.2.2.2.2.2.2.2.2.2.2.2.1))).trans (hHeld.2.2.2.2.2.2.2.2.2.2.2.1)
          have HS12_ := (hb.cell (World.block_lt_of_cell? _ _ (hHeld.2.2.2.2.2.2.2.2.2.2.2.2.1))).trans (hHeld.2.2.2.2.2.2.2.2.2.2.2.2.1)
          have HS13_ := (hb.cell (World.block_lt_of_cell? _ _ (hHeld.2.2.2.2.2.2.2.2.2.2.2.2.2))).trans (hHeld.2.2.2.2.2.2.2.2.2.2.2.2.2)
          clear hg_ hnew_
          (first | rw [← Ny234.out] at ho39 | (simp only [Int.reduceToNat] at ho39; rw [← Ny234.out] at ho39))
          have n0_ := Aside0.mk (Kd.R_elder' (by (with_reducible repeat (first | apply Kd.R_alloc | apply Kd.R_drewN | apply Kd.R_drew)); exact HO215.out) (Kd.R_base ho39) hb)
          have n1_ := Aside0.mk (Kd.R_elder' (by (with_reducible repeat (first | apply Kd.R_alloc | apply Kd.R_drewN | apply Kd.R_drew)); exact HO228.out) (Kd.R_base ho39) hb)
          have n2_ := Aside0.mk (Kd.R_elder' (by (with_reducible repeat (first | apply Kd.R_alloc | apply Kd.R_drewN | apply Kd.R_drew)); exact HO231.out) (Kd.R_base ho39) hb)
          have n3_ := Aside0.mk (Kd.R_lower (Kd.R_new' (Kd.R_new' (Kd.R_new' ho39 (Kd.R_lt (by (with_reducible repeat (first | apply Kd.R_alloc | apply Kd.R_drewN | apply Kd.R_drew)); exact HO215.out))) (Kd.R_lt (by (with_reducible repeat (first | apply Kd.R_alloc | apply Kd.R_drewN | apply Kd.R_drew)); exact HO228.out))) (Kd.R_lt (by (with_reducible repeat (first | apply Kd.R_alloc | apply Kd.R_drewN | apply Kd.R_drew)); exact HO231.out))) (below_size (by repeat (first | (with_reducible first | exact HB.out | apply below_alloc | apply pw_below_drewN | apply below_drew1 | refine below_set ?_ (IsS41.ge HI212.out)) | exact HB.out))))
          have n4_ := Aside0.mk (IsS41.below (by repeat (first | (with_reducible first | exact HI212.out | apply IsS41.alloc | apply IsS41.drewN | apply IsS41.drew | apply IsS41.set_1) | exact HI212.out)) hb)
          have n5_ := Aside0.mk (below_step (by repeat (first | (with_reducible first | exact HB.out | apply below_alloc | apply pw_below_drewN | apply below_drew1 | refine below_set ?_ (IsS41.ge HI212.out)) | exact HB.out)) hb)
          clear HO215
          clear HO228
          clear HO231
          clear HI212
          clear HB
          have HO215 := n0_
          have HO228 := n1_
          have HO231 := n2_
          have HO236 := n3_
          have HI212 := n4_
          have HB := n5_
          clear n0_ n1_ n2_ n3_ n4_ n5_
          clear hb ho39
          refine hK.out _ _ ⟨HS0_, HS1_, HS2_, HS3_, HS4_, HS5_, HS6_, HS7_, HS8_, HS9_, HS10_, HS11_, HS12_, HS13_⟩ (fun hHeld => ?_)
          clear hK K
          refine norm_ (a' := ?_) ?_ ?_
          rotate_left
          ·show Act.put _ (some 37) _ = _
           simp only [Act.put, List.setIfInBounds_toArray, List.set_cons_zero, List.set_cons_succ, i64_w, i32_w]
           rfl
          refine one_ (i := 22) (N := some 39) #[true, true, true, true, true, true, true, true, true, true, true, true, true, true, true, true, true, true, true, true, true, true, true, false, false, false, false, false, false, false] rfl rfl (one_of HT_.out (by kernel_rfl)) (by decide) (fun K hK => ?_)
          refine Kd.R_append_rows_step k34 (w0 := w) w.heap.size (by rfl) (.tmp 37) (.tmp 38) 31 34 (.agg #[(.int .i64 0), (.int .i64 0), (.int .i64 0), (.int .i64 0), (.int .i64 0), (.int .i64 0), (.int .i64 0)]) 56 rfl Try.underlying31 info34 rfl (by decide) (by omega) v235 y234 t213 _ _ _ (fun k_ => some k_ ≠ (.slice (some ad225) t213.length co25 : Value).ownBlock ∧ some k_ ≠ (.slice Ao35 y226.length co35 : Value).ownBlock ∧ some k_ ≠ (.slice Ao36 y229.length co36 : Value).ownBlock) (fun _ => False) rfl rfl ?aO ?aR (fun _ _ h => h) (fun _ h => h.elim) ?aF ?aB ?aS ?aL ?_
          (case aR => repeat (first | exact (Kd.R_reads' HO215.out).2.2 | (with_reducible refine Kd.C_alloc ?_ _) | (with_reducible refine Kd.C_drewN ?_ _) | (with_reducible refine Kd.C_drew ?_)))
          (case aB => exact (by repeat (first | (with_reducible first | exact HB.out | apply below_alloc | apply pw_below_drewN | apply below_drew1 | refine below_set ?_ (IsS41.ge HI212.out)) | exact HB.out)))
          (case aF => exact (fun k_ hk => ⟨Kd.fresh' (Kd.R_lt (by (with_reducible repeat (first | apply Kd.R_alloc | apply Kd.R_drewN | apply Kd.R_drew)); exact HO215.out)) k_ hk, Kd.fresh' (Kd.R_lt (by (with_reducible repeat (first | apply Kd.R_alloc | apply Kd.R_drewN | apply Kd.R_drew)); exact HO228.out)) k_ hk, Kd.fresh' (Kd.R_lt (by (with_reducible repeat (first | apply Kd.R_alloc | apply Kd.R_drewN | apply Kd.R_drew)); exact HO231.out)) k_ hk⟩))
          (case aO => exact (by (with_reducible repeat (first | apply Kd.R_alloc | apply Kd.R_drewN | apply Kd.R_drew)); exact Kd.R_mono HO236.out (fun _ hk => ⟨hk.1.1.2, ⟨hk.1.2, hk.2⟩⟩)))
          (case aS => exact (below_size (by repeat (first | (with_reducible first | exact HB.out | apply below_alloc | apply pw_below_drewN | apply below_drew1 | refine below_set ?_ (IsS41.ge HI212.out)) | exact HB.out))))
          (case aL => have := LMc19.out; omega)
          intro v238 w40 ho hb hg hat
          have HS0_ := cell_grown hg (hHeld.1) (by first | (rw [add_block]; exact (fun e_ => by have h_ := HO236.out.1 _ e_.symm; first | exact h_.2 rfl | exact h_.1 rfl | exact h_.1.2 rfl | exact h_.1.1.2 rfl | exact h_.2.1 rfl | exact h_.2.2 rfl | exact h_.1.2.1 rfl | exact h_.1.1.1.2 rfl | exact h_ rfl)) | (show some (Addr.add _ _).block ≠ _; rw [add_block]; exact (fun e_ => by have h_ := HO236.out.1 _ e_.symm; first | exact h_.2 rfl | exact h_.1 rfl | exact h_.1.2 rfl | exact h_.1.1.2 rfl | exact h_.2.1 rfl | exact h_.2.2 rfl | exact h_.1.2.1 rfl | exact h_.1.1.1.2 rfl | exact h_ rfl)) | exact (fun e_ => by have h_ := HO236.out.1 _ e_.symm; first | exact h_.2 rfl | exact h_.1 rfl | exact h_.1.2 rfl | exact h_.1.1.2 rfl | exact h_.2.1 rfl | exact h_.2.2 rfl | exact h_.1.2.1 rfl | exact h_.1.1.1.2 rfl | exact h_ rfl))
          have HS1_ := cell_grown hg (hHeld.2.1) (by first | (rw [add_block]; exact (fun e_ => by have h_ := HO236.out.1 _ e_.symm; first | exact h_.2 rfl | exact h_.1 rfl | exact h_.1.2 rfl | exact h_.1.1.2 rfl | exact h_.2.1 rfl | exact h_.2.2 rfl | exact h_.1.2.1 rfl | exact h_.1.1.1.2 rfl | exact h_ rfl)) | (show some (Addr.add _ _).block ≠ _; rw [add_block]; exact (fun e_ => by have h_ := HO236.out.1 _ e_.symm; first | exact h_.2 rfl | exact h_.1 rfl | exact h_.1.2 rfl | exact h_.1.1.2 rfl | exact h_.2.1 rfl | exact h_.2.2 rfl | exact h_.1.2.1 rfl | exact h_.1.1.1.2 rfl | exact h_ rfl)) | exact (fun e_ => by have h_ := HO236.out.1 _ e_.symm; first | exact h_.2 rfl | exact h_.1 rfl | exact h_.1.2 rfl | exact h_.1.1.2 rfl | exact h_.2.1 rfl | exact h_.2.2 rfl | exact h_.1.2.1 rfl | exact h_.1.1.1.2 rfl | exact h_ rfl))
          have HS2_ := cell_grown hg (hHeld.2.2.1) (by first | (rw [add_block]; exact (fun e_ => by have h_ := HO236.out.1 _ e_.symm; first | exact h_.2 rfl | exact h_.1 rfl | exact h_.1.2 rfl | exact h_.1.1.2 rfl | exact h_.2.1 rfl | exact h_.2.2 rfl | exact h_.1.2.1 rfl | exact h_.1.1.1.2 rfl | exact h_ rfl)) | (show some (Addr.add _ _).block ≠ _; rw [add_block]; exact (fun e_ => by have h_ := HO236.out.1 _ e_.symm; first | exact h_.2 rfl | exact h_.1 rfl | exact h_.1.2 rfl | exact h_.1.1.2 rfl | exact h_.2.1 rfl | exact h_.2.2 rfl | exact h_.1.2.1 rfl | exact h_.1.1.1.2 rfl | exact h_ rfl)) | exact (fun e_ => by have h_ := HO236.out.1 _ e_.symm; first | exact h_.2 rfl | exact h_.1 rfl | exact h_.1.2 rfl | exact h_.1.1.2 rfl | exact h_.2.1 rfl | exact h_.2.2 rfl | exact h_.1.2.1 rfl | exact h_.1.1.1.2 rfl | exact h_ rfl))
          have HS3_ := cell_grown hg (hHeld.2.2.2.1) (by first | (rw [add_block]; exact (fun e_ => by have h_ := HO236.out.1 _ e_.symm; first | exact h_.2 rfl | exact h_.1 rfl | exact h_.1.2 rfl | exact h_.1.1.2 rfl | exact h_.2.1 rfl | exact h_.2.2 rfl | exact h_.1.2.1 rfl | exact h_.1.1.1.2 rfl | exact h_ rfl)) | (show some (Addr.add _ _).block ≠ _; rw [add_block]; exact (fun e_ => by have h_ := HO236.out.1 _ e_.symm; first | exact h_.2 rfl | exact h_.1 rfl | exact h_.1.2 rfl | exact h_.1.1.2 rfl | exact h_.2.1 rfl | exact h_.2.2 rfl | exact h_.1.2.1 rfl | exact h_.1.1.1.2 rfl | exact h_ rfl)) | exact (fun e_ => by have h_ := HO236.out.1 _ e_.symm; first | exact h_.2 rfl | exact h_.1 rfl | exact h_.1.2 rfl | exact h_.1.1.2 rfl | exact h_.2.1 rfl | exact h_.2.2 rfl | exact h_.1.2.1 rfl | exact h_.1.1.1.2 rfl | exact h_ rfl))
          have HS4_ := cell_grown hg (hHeld.2.2.2.2.1) (by first | (rw [add_block]; exact (fun e_ => by have h_ := HO236.out.1 _ e_.symm; first | exact h_.2 rfl | exact h_.1 rfl | exact h_.1.2 rfl | exact h_.1.1.2 rfl | exact h_.2.1 rfl | exact h_.2.2 rfl | exact h_.1.2.1 rfl | exact h_.1.1.1.2 rfl | exact h_ rfl)) | (show some (Addr.add _ _).block ≠ _; rw [add_block]; exact (fun e_ => by have h_ := HO236.out.1 _ e_.symm; first | exact h_.2 rfl | exact h_.1 rfl | exact h_.1.2 rfl | exact h_.1.1.2 rfl | exact h_.2.1 rfl | exact h_.2.2 rfl | exact h_.1.2.1 rfl | exact h_.1.1.1.2 rfl | exact h_ rfl)) | exact (fun e_ => by have h_ := HO236.out.1 _ e_.symm; first | exact h_.2 rfl | exact h_.1 rfl | exact h_.1.2 rfl | exact h_.1.1.2 rfl | exact h_.2.1 rfl | exact h_.2.2 rfl | exact h_.1.2.1 rfl | exact h_.1.1.1.2 rfl | exact h_ rfl))
          have HS5_ := cell_grown hg (hHeld.2.2.2.2.2.1) (by first | (rw [add_block]; exact (fun e_ => by have h_ := HO236.out.1 _ e_.symm; first | exact h_.2 rfl | exact h_.1 rfl | exact h_.1.2 rfl | exact h_.1.1.2 rfl | exact h_.2.1 rfl | exact h_.2.2 rfl | exact h_.1.2.1 rfl | exact h_.1.1.1.2 rfl | exact h_ rfl)) | (show some (Addr.add _ _).block ≠ _; rw [add_block]; exact (fun e_ => by have h_ := HO236.out.1 _ e_.symm; first | exact h_.2 rfl | exact h_.1 rfl | exact h_.1.2 rfl | exact h_.1.1.2 rfl | exact h_.2.1 rfl | exact h_.2.2 rfl | exact h_.1.2.1 rfl | exact h_.1.1.1.2 rfl | exact h_ rfl)) | exact (fun e_ => by have h_ := HO236.out.1 _ e_.symm; first | exact h_.2 rfl | exact h_.1 rfl | exact h_.1.2 rfl | exact h_.1.1.2 rfl | exact h_.2.1 rfl | exact h_.2.2 rfl | exact h_.1.2.1 rfl | exact h_.1.1.1.2 rfl | exact h_ rfl))
          have HS6_ := cell_grown hg (hHeld.2.2.2.2.2.2.1) (by first | (rw [add_block]; exact (fun e_ => by have h_ := HO236.out.1 _ e_.symm; first | exact h_.2 rfl | exact h_.1 rfl | exact h_.1.2 rfl | exact h_.1.1.2 rfl | exact h_.2.1 rfl | exact h_.2.2 rfl | exact h_.1.2.1 rfl | exact h_.1.1.1.2 rfl | exact h_ rfl)) | (show some (Addr.add _ _).block ≠ _; rw [add_block]; exact (fun e_ => by have h_ := HO236.out.1 _ e_.symm; first | exact h_.2 rfl | exact h_.1 rfl | exact h_.1.2 rfl | exact h_.1.1.2 rfl | exact h_.2.1 rfl | exact h_.2.2 rfl | exact h_.1.2.1 rfl | exact h_.1.1.1.2 rfl | exact h_ rfl)) | exact (fun e_ => by have h_ := HO236.out.1 _ e_.symm; first | exact h_.2 rfl | exact h_.1 rfl | exact h_.1.2 rfl | exact h_.1.1.2 rfl | exact h_.2.1 rfl | exact h_.2.2 rfl | exact h_.1.2.1 rfl | exact h_.1.1.1.2 rfl | exact h_ rfl))
          have HS7_ := cell_grown hg (hHeld.2.2.2.2.2.2.2.1) (by first | (rw [add_block]; exact (fun e_ => by have h_ := HO236.out.1 _ e_.symm; first | exact h_.2 rfl | exact h_.1 rfl | exact h_.1.2 rfl | exact h_.1.1.2 rfl | exact h_.2.1 rfl | exact h_.2.2 rfl | exact h_.1.2.1 rfl | exact h_.1.1.1.2 rfl | exact h_ rfl)) | (show some (Addr.add _ _).block ≠ _; rw [add_block]; exact (fun e_ => by have h_ := HO236.out.1 _ e_.symm; first | exact h_.2 rfl | exact h_.1 rfl | exact h_.1.2 rfl | exact h_.1.1.2 rfl | exact h_.2.1 rfl | exact h_.2.2 rfl | exact h_.1.2.1 rfl | exact h_.1.1.1.2 rfl | exact h_ rfl)) | exact (fun e_ => by have h_ := HO236.out.1 _ e_.symm; first | exact h_.2 rfl | exact h_.1 rfl | exact h_.1.2 rfl | exact h_.1.1.2 rfl | exact h_.2.1 rfl | exact h_.2.2 rfl | exact h_.1.2.1 rfl | exact h_.1.1.1.2 rfl | exact h_ rfl))
          have HS8_ := cell_grown hg (hHeld.2.2.2.2.2.2.2.2.1) (by first | (rw [add_block]; exact (fun e_ => by have h_ := HO236.out.1 _ e_.symm; first | exact h_.2 rfl | exact h_.1 rfl | exact h_.1.2 rfl | exact h_.1.1.2 rfl | exact h_.2.1 rfl | exact h_.2.2 rfl | exact h_.1.2.1 rfl | exact h_.1.1.1.2 rfl | exact h_ rfl)) | (show some (Addr.add _ _).block ≠ _; rw [add_block]; exact (fun e_ => by have h_ := HO236.out.1 _ e_.symm; first | exact h_.2 rfl | exact h_.1 rfl | exact h_.1.2 rfl | exact h_.1.1.2 rfl | exact h_.2.1 rfl | exact h_.2.2 rfl | exact h_.1.2.1 rfl | exact h_.1.1.1.2 rfl | exact h_ rfl)) | exact (fun e_ => by have h_ := HO236.out.1 _ e_.symm; first | exact h_.2 rfl | exact h_.1 rfl | exact h_.1.2 rfl | exact h_.1.1.2 rfl | exact h_.2.1 rfl | exact h_.2.2 rfl | exact h_.1.2.1 rfl | exact h_.1.1.1.2 rfl | exact h_ rfl))
          have HS9_ := cell_grown hg (hHeld.2.2.2.2.2.2.2.2.2.1) (by first | (rw [add_block]; exact (fun e_ => by have h_ := HO236.out.1 _ e_.symm; first | exact h_.2 rfl | exact h_.1 rfl | exact h_.1.2 rfl | exact h_.1.1.2 rfl | exact h_.2.1 rfl | exact h_.2.2 rfl | exact h_.1.2.1 rfl | exact h_.1.1.1.2 rfl | exact h_ rfl)) | (show some (Addr.add _ _).block ≠ _; rw [add_block]; exact (fun e_ => by have h_ := HO236.out.1 _ e_.symm; first | exact h_.2 rfl | exact h_.1 rfl | exact h_.1.2 rfl | exact h_.1.1.2 rfl | exact h_.2.1 rfl | exact h_.2.2 rfl | exact h_.1.2.1 rfl | exact h_.1.1.1.2 rfl | exact h_ rfl)) | exact (fun e_ => by have h_ := HO236.out.1 _ e_.symm; first | exact h_.2 rfl | exact h_.1 rfl | exact h_.1.2 rfl | exact h_.1.1.2 rfl | exact h_.2.1 rfl | exact h_.2.2 rfl | exact h_.1.2.1 rfl | exact h_.1.1.1.2 rfl | exact h_ rfl))
          have HS10_ := cell_grown hg (hHeld.2.2.2.2.2.2.2.2.2.2.1) (by first | (rw [add_block]; exact (fun e_ => by have h_ := HO236.out.1 _ e_.symm; first | exact h_.2 rfl | exact h_.1 rfl | exact h_.1.2 rfl | exact h_.1.1.2 rfl | exact h_.2.1 rfl | exact h_.2.2 rfl | exact h_.1.2.1 rfl | exact h_.1.1.1.2 rfl | exact h_ rfl)) | (show some (Addr.add _ _).block ≠ _; rw [add_block]; exact (fun e_ => by have h_ := HO236.out.1 _ e_.symm; first | exact h_.2 rfl | exact h_.1 rfl | exact h_.1.2 rfl | exact h_.1.1.2 rfl | exact h_.2.1 rfl | exact h_.2.2 rfl | exact h_.1.2.1 rfl | exact h_.1.1.1.2 rfl | exact h_ rfl)) | exact (fun e_ => by have h_ := HO236.out.1 _ e_.symm; first | exact h_.2 rfl | exact h_.1 rfl | exact h_.1.2 rfl | exact h_.1.1.2 rfl | exact h_.2.1 rfl | exact h_.2.2 rfl | exact h_.1.2.1 rfl | exact h_.1.1.1.2 rfl | exact h_ rfl))
          have HS11_ := cell_grown hg (hHeld.2.2.2.2.2.2.2.2.2.2.2.1) (by first | (rw [add_block]; exact (fun e_ => by have h_ := HO236.out.1 _ e_.symm; first | exact h_.2 rfl | exact h_.1 rfl | exact h_.1.2 rfl | exact h_.1.1.2 rfl | exact h_.2.1 rfl | exact h_.2.2 rfl | exact h_.1.2.1 rfl | exact h_.1.1.1.2 rfl | exact h_ rfl)) | (show some (Addr.add _ _).block ≠ _; rw [add_block]; exact (fun e_ => by have h_ := HO236.out.1 _ e_.symm; first | exact h_.2 rfl | exact h_.1 rfl | exact h_.1.2 rfl | exact h_.1.1.2 rfl | exact h_.2.1 rfl | exact h_.2.2 rfl | exact h_.1.2.1 rfl | exact h_.1.1.1.2 rfl | exact h_ rfl)) | exact (fun e_ => by have h_ := HO236.out.1 _ e_.symm; first | exact h_.2 rfl | exact h_.1 rfl | exact h_.1.2 rfl | exact h_.1.1.2 rfl | exact h_.2.1 rfl | exact h_.2.2 rfl | exact h_.1.2.1 rfl | exact h_.1.1.1.2 rfl | exact h_ rfl))
          have HS12_ := cell_grown hg (hHeld.2.2.2.2.2.2.2.2.2.2.2.2.1) (by first | (rw [add_block]; exact (fun e_ => by have h_ := HO236.out.1 _ e_.symm; first | exact h_.2 rfl | exact h_.1 rfl | exact h_.1.2 rfl | exact h_.1.1.2 rfl | exact h_.2.1 rfl | exact h_.2.2 rfl | exact h_.1.2.1 rfl | exact h_.1.1.1.2 rfl | exact h_ rfl)) | (show some (Addr.add _ _).block ≠ _; rw [add_block]; exact (fun e_ => by have h_ := HO236.out.1 _ e_.symm; first | exact h_.2 rfl | exact h_.1 rfl | exact h_.1.2 rfl | exact h_.1.1.2 rfl | exact h_.2.1 rfl | exact h_.2.2 rfl | exact h_.1.2.1 rfl | exact h_.1.1.1.2 rfl | exact h_ rfl)) | exact (fun e_ => by have h_ := HO236.out.1 _ e_.symm; first | exact h_.2 rfl | exact h_.1 rfl | exact h_.1.2 rfl | exact h_.1.1.2 rfl | exact h_.2.1 rfl | exact h_.2.2 rfl | exact h_.1.2.1 rfl | exact h_.1.1.1.2 rfl | exact h_ rfl))
          have HS13_ := cell_grown hg (hHeld.2.2.2.2.2.2.2.2.2.2.2.2.2) (by first | (rw [add_block]; exact (fun e_ => by have h_ := HO236.out.1 _ e_.symm; first | exact h_.2 rfl | exact h_.1 rfl | exact h_.1.2 rfl | exact h_.1.1.2 rfl | exact h_.2.1 rfl | exact h_.2.2 rfl | exact h_.1.2.1 rfl | exact h_.1.1.1.2 rfl | exact h_ rfl)) | (show some (Addr.add _ _).block ≠ _; rw [add_block]; exact (fun e_ => by have h_ := HO236.out.1 _ e_.symm; first | exact h_.2 rfl | exact h_.1 rfl | exact h_.1.2 rfl | exact h_.1.1.2 rfl | exact h_.2.1 rfl | exact h_.2.2 rfl | exact h_.1.2.1 rfl | exact h_.1.1.1.2 rfl | exact h_ rfl)) | exact (fun e_ => by have h_ := HO236.out.1 _ e_.symm; first | exact h_.2 rfl | exact h_.1 rfl | exact h_.1.2 rfl | exact h_.1.1.2 rfl | exact h_.2.1 rfl | exact h_.2.2 rfl | exact h_.1.2.1 rfl | exact h_.1.1.1.2 rfl | exact h_ rfl))
          rw [← Ny237.out] at ho
          have n0_ := Aside0.mk (IsS41.grown (show IsS41 w _ gb212 l0 t216 from by repeat (first | (with_reducible first | exact HI212.out | apply IsS41.alloc | apply IsS41.drewN | apply IsS41.drew | apply IsS41.set_1) | exact HI212.out)) hg (IsS41.own_ne HI212.out HO236.out (by decide)))
          have n1_ := Aside0.mk (Kd.R_after (ok := (fun k_ => some k_ ≠ (.slice Ao35 y226.length co35 : Value).ownBlock ∧ some k_ ≠ (.slice Ao36 y229.length co36 : Value).ownBlock)) (by (with_reducible repeat (first | apply Kd.R_alloc | apply Kd.R_drewN | apply Kd.R_drew)); exact HO215.out) hg hat)
          have n2_ := Aside0.mk (Kd.R_after (ok := (fun k_ => some k_ ≠ (.slice (some ad225) t213.length co25 : Value).ownBlock ∧ some k_ ≠ (.slice Ao36 y229.length co36 : Value).ownBlock)) (by (with_reducible repeat (first | apply Kd.R_alloc | apply Kd.R_drewN | apply Kd.R_drew)); exact HO228.out) hg hat)
          have n3_ := Aside0.mk (Kd.R_after (ok := (fun k_ => some k_ ≠ (.slice (some ad225) t213.length co25 : Value).ownBlock ∧ some k_ ≠ (.slice Ao35 y226.length co35 : Value).ownBlock)) (by (with_reducible repeat (first | apply Kd.R_alloc | apply Kd.R_drewN | apply Kd.R_drew)); exact HO231.out) hg hat)
          have n4_ := Aside0.mk (hb)
          have n5_ := Aside0.mk (ho)
          clear HI212
          clear HO215
          clear HO228
          clear HO231
          clear HB
          clear HO236
          have HI212 := n0_
          have HO215 := n1_
          have HO228 := n2_
          have HO231 := n3_
          have HB := n4_
          have HO239 := n5_
          clear n0_ n1_ n2_ n3_ n4_ n5_
          clear ho hb hg hat
          obtain ⟨Ao41, co41, eo41⟩ := Kd.R_slice HO239.out
          (first | subst eo41 | (injection eo41 with f1_ f2_ f3_; have f4_ := f1_.symm; have f5_ := f3_.symm; clear f1_ f2_ f3_; subst f4_; subst f5_))
          refine hK.out _ _ ⟨HS0_, HS1_, HS2_, HS3_, HS4_, HS5_, HS6_, HS7_, HS8_, HS9_, HS10_, HS11_, HS12_, HS13_⟩ (fun hHeld => ?_)
          clear hK K
          refine norm_ (a' := ?_) ?_ ?_
          rotate_left
          ·show Act.put _ (some 39) _ = _
           simp only [Act.put, List.setIfInBounds_toArray, List.set_cons_zero, List.set_cons_succ, i64_w, i32_w]
           rfl
          refine one_ (i := 23) (N := some 40) #[true, true, true, true, true, true, true, true, true, true, true, true, true, true, true, true, true, true, true, true, true, true, true, true, false, false, false, false, false, false] rfl rfl (one_of HT_.out (by kernel_rfl)) (by decide) (fun K hK => ?_)
          refine goes_ Try.func22 (by kernel_rfl) rfl #[.slice Ao41 y237.length co41] (by rfl) rfl rfl (by (try simp only [List.map_toArray, List.map_cons, List.map_nil]); first | done | rfl | (simp only [List.length_drop, List.length_take]; rfl)) ?_
          with_reducible refine (key_Right.calls k _ _ y237 false _ ?side1 ?side2 A20.out).mono ?_
          (case side1 => repeat (first | exact (Kd.R_reads' HO239.out).2.2 | (with_reducible refine Kd.C_alloc ?_ _) | (with_reducible refine Kd.C_drewN ?_ _) | (with_reducible refine Kd.C_drew ?_)))
          (case side2 => exact (Kd.R_reads' HO239.out).2.1)
          rintro e w42 ⟨rfl, hb⟩
          have HS0_ := (hb.cell (World.block_lt_of_cell? _ _ (hHeld.1))).trans (hHeld.1)
          have HS1_ := (hb.cell (World.block_lt_of_cell? _ _ (hHeld.2.1))).trans (hHeld.2.1)
          have HS2_ := (hb.cell (World.block_lt_of_cell? _ _ (hHeld.2.2.1))).trans (hHeld.2.2.1)
          have HS3_ := (hb.cell (World.block_lt_of_cell? _ _ (hHeld.2.2.2.1))).trans (hHeld.2.2.2.1)
          have HS4_ := (hb.cell (World.block_lt_of_cell? _ _ (hHeld.2.2.2.2.1))).trans (hHeld.2.2.2.2.1)
          have HS5_ := (hb.cell (World.block_lt_of_cell? _ _ (hHeld.2.2.2.2.2.1))).trans (hHeld.2.2.2.2.2.1)
          have HS6_ := (hb.cell (World.block_lt_of_cell? _ _ (hHeld.2.2.2.2.2.2.1))).trans (hHeld.2.2.2.2.2.2.1)
          have HS7_ := (hb.cell (World.block_lt_of_cell? _ _ (hHeld.2.2.2.2.2.2.2.1))).trans (hHeld.2.2.2.2.2.2.2.1)
          have HS8_ := (hb.cell (World.block_lt_of_cell? _ _ (hHeld.2.2.2.2.2.2.2.2.1))).trans (hHeld.2.2.2.2.2.2.2.2.1)
          have HS9_ := (hb.cell (World.block_lt_of_cell? _ _ (hHeld.2.2.2.2.2.2.2.2.2.1))).trans (hHeld.2.2.2.2.2.2.2.2.2.1)
          have HS10_ := (hb.cell (World.block_lt_of_cell? _ _ (hHeld.2.2.2.2.2.2.2.2.2.2.1))).trans (hHeld.2.2.2.2.2.2.2.2.2.2.1)
          have HS11_ := (hb.cell (World.block_lt_of_cell? _ _ (hHeld.2.2.2.2.2.2.2.2.2.2.2.1))).trans (hHeld.2.2.2.2.2.2.2.2.2.2.2.1)
          have HS12_ := (hb.cell (World.block_lt_of_cell? _ _ (hHeld.2.2.2.2.2.2.2.2.2.2.2.2.1))).trans (hHeld.2.2.2.2.2.2.2.2.2.2.2.2.1)
          have HS13_ := (hb.cell (World.block_lt_of_cell? _ _ (hHeld.2.2.2.2.2.2.2.2.2.2.2.2.2))).trans (hHeld.2.2.2.2.2.2.2.2.2.2.2.2.2)
          refine ⟨_, rfl, ?_⟩
          have n0_ := Aside0.mk (Kd.R_below (by (with_reducible repeat (first | apply Kd.R_alloc | apply Kd.R_drewN | apply Kd.R_drew)); exact HO215.out) hb)
          have n1_ := Aside0.mk (Kd.R_below (by (with_reducible repeat (first | apply Kd.R_alloc | apply Kd.R_drewN | apply Kd.R_drew)); exact HO228.out) hb)
          have n2_ := Aside0.mk (Kd.R_below (by (with_reducible repeat (first | apply Kd.R_alloc | apply Kd.R_drewN | apply Kd.R_drew)); exact HO231.out) hb)
          have n3_ := Aside0.mk (Kd.R_below (by (with_reducible repeat (first | apply Kd.R_alloc | apply Kd.R_drewN | apply Kd.R_drew)); exact HO239.out) hb)
          have n4_ := Aside0.mk (IsS41.below (by repeat (first | (with_reducible first | exact HI212.out | apply IsS41.alloc | apply IsS41.drewN | apply IsS41.drew | apply IsS41.set_1) | exact HI212.out)) hb)
          have n5_ := Aside0.mk (below_step (by repeat (first | (with_reducible first | exact HB.out | apply below_alloc | apply pw_below_drewN | apply below_drew1 | refine below_set ?_ (IsS41.ge HI212.out)) | exact HB.out)) hb)
          clear HO215
          clear HO228
          clear HO231
          clear HO239
          clear HI212
          clear HB
          have HO215 := n0_
          have HO228 := n1_
          have HO231 := n2_
          have HO239 := n3_
          have HI212 := n4_
          have HB := n5_
          clear n0_ n1_ n2_ n3_ n4_ n5_
          (try clear hb)
          (try clear hb2)
          (try clear hk)
          (try clear hi)
          refine hK.out _ _ ⟨HS0_, HS1_, HS2_, HS3_, HS4_, HS5_, HS6_, HS7_, HS8_, HS9_, HS10_, HS11_, HS12_, HS13_⟩ (fun hHeld => ?_)
          clear hK K
          refine norm_ (a' := ?_) ?_ ?_
          rotate_left
          ·show Act.put _ (some 40) _ = _
           simp only [Act.put, List.setIfInBounds_toArray, List.set_cons_zero, List.set_cons_succ, i64_w, i32_w]
           rfl
          refine pure_ (i := 24) (N := some 41) (v := ?_) (a' := ?_) #[true, true, true, true, true, true, true, true, true, true, true, true, true, true, true, true, true, true, true, true, true, true, true, true, true, false, false, false, false, false] rfl rfl (any_of HT_.out (by kernel_rfl)) (fun _ _ _ h => h) (Or.inl ⟨by rfl, ?_⟩) ?_ ?_
          rotate_left
          ·intro w'
           go_simp
           with_reducible rfl
          rotate_left
          ·simp only [Act.put, List.setIfInBounds_toArray, List.set_cons_zero, List.set_cons_succ, i64_w, i32_w]
           rfl
          refine pure_ (i := 25) (N := some 42) (v := ?_) (a' := ?_) #[true, true, true, true, true, true, true, true, true, true, true, true, true, true, true, true, true, true, true, true, true, true, true, true, true, true, false, false, false, false] rfl rfl (any_of HT_.out (by kernel_rfl)) (fun _ _ _ h => h) (Or.inl ⟨by rfl, ?_⟩) ?_ ?_
          rotate_left
          ·intro w'
           go_simp
           with_reducible rfl
          rotate_left
          ·simp only [Act.put, List.setIfInBounds_toArray, List.set_cons_zero, List.set_cons_succ, i64_w, i32_w]
           rfl
          refine pure_ (i := 26) (N := some 43) (v := ?_) (a' := ?_) #[true, true, true, true, true, true, true, true, true, true, true, true, true, true, true, true, true, true, true, true, true, true, true, true, true, true, true, false, false, false] rfl rfl (any_of HT_.out (by kernel_rfl)) (fun _ _ _ h => h) (Or.inl ⟨by rfl, ?_⟩) ?_ ?_
          rotate_left
          ·intro w'
           go_simp
           with_reducible rfl
          rotate_left
          ·simp only [Act.put, List.setIfInBounds_toArray, List.set_cons_zero, List.set_cons_succ, i64_w, i32_w]
           rfl
          refine one_ (i := 27) (N := some 44) #[true, true, true, true, true, true, true, true, true, true, true, true, true, true, true, true, true, true, true, true, true, true, true, true, true, true, true, true, false, false] rfl rfl (one_of HT_.out (by kernel_rfl)) (by decide) (fun K hK => ?_)
          refine goes_ Try.func20 (by kernel_rfl) rfl #[] (by rfl) rfl rfl (by (try simp only [List.map_toArray, List.map_cons, List.map_nil]); first | done | rfl | (simp only [List.length_drop, List.length_take]; rfl)) ?_
          with_reducible refine (mutoscopelaw5_known.calls k  t241 _ A22.out).mono ?_
          rintro e w43 ⟨rfl, hb⟩
          have HS0_ := (hb.cell (World.block_lt_of_cell? _ _ (hHeld.1))).trans (hHeld.1)
          have HS1_ := (hb.cell (World.block_lt_of_cell? _ _ (hHeld.2.1))).trans (hHeld.2.1)
          have HS2_ := (hb.cell (World.block_lt_of_cell? _ _ (hHeld.2.2.1))).trans (hHeld.2.2.1)
          have HS3_ := (hb.cell (World.block_lt_of_cell? _ _ (hHeld.2.2.2.1))).trans (hHeld.2.2.2.1)
          have HS4_ := (hb.cell (World.block_lt_of_cell? _ _ (hHeld.2.2.2.2.1))).trans (hHeld.2.2.2.2.1)
          have HS5_ := (hb.cell (World.block_lt_of_cell? _ _ (hHeld.2.2.2.2.2.1))).trans (hHeld.2.2.2.2.2.1)
          have HS6_ := (hb.cell (World.block_lt_of_cell? _ _ (hHeld.2.2.2.2.2.2.1))).trans (hHeld.2.2.2.2.2.2.1)
          have HS7_ := (hb.cell (World.block_lt_of_cell? _ _ (hHeld.2.2.2.2.2.2.2.1))).trans (hHeld.2.2.2.2.2.2.2.1)
          have HS8_ := (hb.cell (World.block_lt_of_cell? _ _ (hHeld.2.2.2.2.2.2.2.2.1))).trans (hHeld.2.2.2.2.2.2.2.2.1)
          have HS9_ := (hb.cell (World.block_lt_of_cell? _ _ (hHeld.2.2.2.2.2.2.2.2.2.1))).trans (hHeld.2.2.2.2.2.2.2.2.2.1)
          have HS10_ := (hb.cell (World.block_lt_of_cell? _ _ (hHeld.2.2.2.2.2.2.2.2.2.2.1))).trans (hHeld.2.2.2.2.2.2.2.2.2.2.1)
          have HS11_ := (hb.cell (World.block_lt_of_cell? _ _ (hHeld.2.2.2.2.2.2.2.2.2.2.2.1))).trans (hHeld.2.2.2.2.2.2.2.2.2.2.2.1)
          have HS12_ := (hb.cell (World.block_lt_of_cell? _ _ (hHeld.2.2.2.2.2.2.2.2.2.2.2.2.1))).trans (hHeld.2.2.2.2.2.2.2.2.2.2.2.2.1)
          have HS13_ := (hb.cell (World.block_lt_of_cell? _ _ (hHeld.2.2.2.2.2.2.2.2.2.2.2.2.2))).trans (hHeld.2.2.2.2.2.2.2.2.2.2.2.2.2)
          refine ⟨_, rfl, ?_⟩
          have n0_ := Aside0.mk (Kd.R_below (by (with_reducible repeat (first | apply Kd.R_alloc | apply Kd.R_drewN | apply Kd.R_drew)); exact HO215.out) hb)
          have n1_ := Aside0.mk (Kd.R_below (by (with_reducible repeat (first | apply Kd.R_alloc | apply Kd.R_drewN | apply Kd.R_drew)); exact HO228.out) hb)
          have n2_ := Aside0.mk (Kd.R_below (by (with_reducible repeat (first | apply Kd.R_alloc | apply Kd.R_drewN | apply Kd.R_drew)); exact HO231.out) hb)
          have n3_ := Aside0.mk (Kd.R_below (by (with_reducible repeat (first | apply Kd.R_alloc | apply Kd.R_drewN | apply Kd.R_drew)); exact HO239.out) hb)
          have n4_ := Aside0.mk (IsS41.below (by repeat (first | (with_reducible first | exact HI212.out | apply IsS41.alloc | apply IsS41.drewN | apply IsS41.drew | apply IsS41.set_1) | exact HI212.out)) hb)
          have n5_ := Aside0.mk (below_step (by repeat (first | (with_reducible first | exact HB.out | apply below_alloc | apply pw_below_drewN | apply below_drew1 | refine below_set ?_ (IsS41.ge HI212.out)) | exact HB.out)) hb)
          clear HO215
          clear HO228
          clear HO231
          clear HO239
          clear HI212
          clear HB
          have HO215 := n0_
          have HO228 := n1_
          have HO231 := n2_
          have HO239 := n3_
          have HI212 := n4_
          have HB := n5_
          clear n0_ n1_ n2_ n3_ n4_ n5_
          (try clear hb)
          (try clear hb2)
          (try clear hk)
          (try clear hi)
          refine hK.out _ _ ⟨HS0_, HS1_, HS2_, HS3_, HS4_, HS5_, HS6_, HS7_, HS8_, HS9_, HS10_, HS11_, HS12_, HS13_⟩ (fun hHeld => ?_)
          clear hK K
          refine norm_ (a' := ?_) ?_ ?_
          rotate_left
          ·show Act.put _ (some 44) _ = _
           simp only [Act.put, List.setIfInBounds_toArray, List.set_cons_zero, List.set_cons_succ, i64_w, i32_w]
           rfl
          refine pure_ (i := 28) (N := some 45) (v := ?_) (a' := ?_) #[true, true, true, true, true, true, true, true, true, true, true, true, true, true, true, true, true, true, true, true, true, true, true, true, true, true, true, true, true, false] rfl rfl (any_of HT_.out (by kernel_rfl)) (fun _ _ _ h => h) (Or.inl ⟨by rfl, ?_⟩) ?_ ?_
          rotate_left
          ·intro w'
           go_simp
           with_reducible rfl
          rotate_left
          ·simp only [Act.put, List.setIfInBounds_toArray, List.set_cons_zero, List.set_cons_succ, i64_w, i32_w]
           rfl
          refine pure_ (i := 29) (N := some 2) (v := ?_) (a' := ?_) #[true, true, true, true, true, true, true, true, true, true, true, true, true, true, true, true, true, true, true, true, true, true, true, true, true, true, true, true, true, true] rfl rfl (any_of HT_.out (by kernel_rfl)) (fun _ _ _ h => h) (Or.inl ⟨by rfl, ?_⟩) ?_ ?_
          rotate_left
          ·intro w'
           go_simp
           with_reducible rfl
          rotate_left
          ·simp only [Act.put, List.setIfInBounds_toArray, List.set_cons_zero, List.set_cons_succ, i64_w, i32_w]
           rfl
          refine done_ (done_of HT_.out (by kernel_rfl)) ?_
          try go_wp2
          go_ret
          exact ⟨by first | rfl | (simp [errW_none, errW_some] <;> rfl) | (simp only [← hji13]; first | rfl | (simp [errW_none, errW_some] <;> rfl)) | (simp [*, errW_none, errW_some] <;> rfl), by repeat (first | (with_reducible first | exact HB.out | apply below_alloc | apply pw_below_drewN | apply below_drew1 | refine below_set ?_ (IsS41.ge HI212.out)) | exact HB.out)⟩
        ·rw [if_neg c19] at H
         exact absurd H (by simp)
      ·rw [if_neg c16] at H
       exact absurd H (by simp)
     ·rw [if_neg c15] at H
      exact absurd H (by simp)
    ·rw [if_neg c14] at H
     exact absurd H (by simp)
   ·rw [if_neg c12] at H
    exact absurd H (by simp)
 ·replace c4 := Bool.eq_false_iff.mpr c4
  subst c4
  have H1 : (none) = some r := by rw [if_neg (show ¬ (false = true) by decide)] at H; exact H
  clear H
  have H := H1
  clear H1
  exact absurd H (by simp)
def mutoscopelaw5_KeyMade.Pure : Prop := ∀ (l0 : List Int), l0.length ≤ maxLen → l0.length * 8 ≤ 140737488351232 → (∀ x ∈ l0, (Lit.int .i64 x).wf = true) → ∃ k, mutoscopelaw5_KeyMade.f k l0 = some true
theorem mutoscopelaw5_KeyMade.walk (P : mutoscopelaw5_KeyMade.Pure) (a0 : Option Addr) (len0 cap0 : Nat) (z0 : List Int) (w : World) (w0 : (a0 = none ∧ len0 = 0 ∧ cap0 = 0 ∧ z0 = []) ∨ ∃ x, a0 = some x ∧ len0 ≤ cap0 ∧ cap0 ≤ maxLen ∧ z0.length = cap0 ∧ (∀ i, i < z0.length → w.cell? (x.add i) = some (.int .i64 (z0.getD i 0))) ∧ ∀ n ∈ z0, (Lit.int .i64 n).wf = true) (y0 : len0 * 8 ≤ 140737488351232) :
  Calls Try.prog 7 #[.slice a0 len0 cap0] w fun e w' => e = .returned (.bool true) ∧ Below w.heap.size w w' := by
 obtain ⟨l0, rfl, hr0, hm0, hw0, hc0⟩ := ReadsInt.ofRowC w0
 obtain ⟨k, h⟩ := P l0 hm0 y0 hw0
 refine (mutoscopelaw5_KeyMade.calls k _ _ l0 true w (Kd.C_of_reads (d := (0 : Int)) (h1 := fun _ => rfl) hr0) hc0 h).mono ?_
 rintro e w' ⟨rfl, hd⟩
 exact ⟨rfl, hd⟩
end Go.Proofs.Ytejnbjclcdmopaa.PM
end

section
set_option linter.unusedVariables false
namespace Go.Proofs.Ytejnbjclcdmopaa.MB
open Go.RowKit
theorem w64 {x : Int} (h : -9223372036854775808 ≤ x) (h' : x ≤ 9223372036854775807) : wrap64 x = x := by unfold wrap64; omega
theorem u64w (x : Int) : IntKind.u64.wrap x = x % 18446744073709551616 := by simp [IntKind.wrap, IntKind.bits, IntKind.signed]
theorem and_low (k : IntKind) (j : Nat) (hj : j < k.bits) (hk : ∀ n : Int, 0 ≤ n → n < 2 ^ j → k.wrap n = n) (a : Int) :
    bits .and k a (2 ^ j - 1) = a % 2 ^ j := by
  have hpos : 0 < 2 ^ j := Nat.two_pow_pos j
  have hc : ((2 : Int) ^ j - 1) = ((2 ^ j - 1 : Nat) : Int) := by
    rw [Int.natCast_sub hpos]; simp
  have hp : 2 ^ j ≤ 2 ^ k.bits := Nat.pow_le_pow_right (by decide) (Nat.le_of_lt hj)
  have hm : (2 ^ j - 1) % 2 ^ k.bits = 2 ^ j - 1 := Nat.mod_eq_of_lt (by omega)
  rw [hc]
  simp only [bits, BitVec.ofInt_natCast, BitVec.toNat_and, BitVec.toNat_ofNat, hm, BitVec.toNat_ofInt]
  rw [Nat.and_two_pow_sub_one_eq_mod]
  have hn : 0 ≤ a % (2 ^ k.bits : Int) := Int.emod_nonneg _ (by have := Int.pow_pos (n := 2) (m := k.bits) (by decide); omega)
  have hd : ((2 : Int) ^ j) ∣ 2 ^ k.bits := ⟨2 ^ (k.bits - j), by rw [← Int.pow_add]; congr 1; omega⟩
  have he : ((((a % ((2 ^ k.bits : Nat) : Int)).toNat % 2 ^ j : Nat)) : Int) = a % 2 ^ j := by
    rw [Int.natCast_emod, Int.toNat_of_nonneg (by rw [Int.natCast_pow]; exact hn)]
    rw [Int.natCast_pow, Int.natCast_pow]
    exact Int.emod_emod_of_dvd a hd
  have hlo := Int.emod_nonneg a (b := (2 : Int) ^ j) (by have := Int.pow_pos (n := 2) (m := j) (by decide); omega)
  have hhi := Int.emod_lt_of_pos a (b := (2 : Int) ^ j) (Int.pow_pos (by decide))
  rw [hk _ (Int.natCast_nonneg _) (by rw [he]; exact hhi), he]
theorem and32u (a : Int) : bits .and .u64 a 4294967295 = a % 4294967296 := and_low .u64 32 (by decide) (fun n h h' => by rw [u64w]; omega) a
theorem mul64_parts (x y x1 x0 y1 y0 : Int) (hx : x = x1 * 4294967296 + x0) (hy : y = y1 * 4294967296 + y0) (h1 : 0 ≤ x1 ∧ x1 < 4294967296) (h2 : 0 ≤ x0 ∧ x0 < 4294967296) (h3 : 0 ≤ y1 ∧ y1 < 4294967296) (h4 : 0 ≤ y0 ∧ y0 < 4294967296) :
    IntKind.u64.wrap ((IntKind.u64.wrap ((IntKind.u64.wrap (x1 * y1)) + ((IntKind.u64.wrap ((IntKind.u64.wrap (x1 * y0)) + ((IntKind.u64.wrap (x0 * y0)) / 4294967296))) / 4294967296))) + ((IntKind.u64.wrap (((IntKind.u64.wrap ((IntKind.u64.wrap (x1 * y0)) + ((IntKind.u64.wrap (x0 * y0)) / 4294967296))) % 4294967296) + (IntKind.u64.wrap (x0 * y1)))) / 4294967296)) = x * y / 18446744073709551616 := by
  have bd : ∀ p q : Int, 0 ≤ p ∧ p < 4294967296 → 0 ≤ q ∧ q < 4294967296 → 0 ≤ p * q ∧ p * q ≤ 18446744065119617025 := fun p q ⟨a, b⟩ ⟨c, d⟩ =>
    ⟨Int.mul_nonneg a c, Int.le_trans (Int.mul_le_mul_of_nonneg_left (show q ≤ 4294967295 by omega) a) (by omega)⟩
  obtain ⟨a1, b1⟩ := bd x1 y1 h1 h3
  obtain ⟨a2, b2⟩ := bd x1 y0 h1 h4
  obtain ⟨a3, b3⟩ := bd x0 y1 h2 h3
  obtain ⟨a4, b4⟩ := bd x0 y0 h2 h4
  have e : x * y = x1 * y1 * 18446744073709551616 + (x1 * y0 + x0 * y1) * 4294967296 + x0 * y0 := by
    subst hx hy
    grind
  generalize x1 * y1 = p11 at *
  generalize x1 * y0 = p10 at *
  generalize x0 * y1 = p01 at *
  generalize x0 * y0 = p00 at *
  simp only [u64w]
  rw [e]
  omega
def cl (a lo hi : Int) : Int := if a < lo then lo else if a > hi then hi else a
def hd (a : Int) : Int := cl a (-1099511627776) 1099511627776
def mul (a b : Int) : Int := hd (hd a * hd b / 65536)
def add (a b : Int) : Int := hd (hd a + hd b)
theorem hd_bd (a : Int) : -1099511627776 ≤ hd a ∧ hd a ≤ 1099511627776 := by unfold hd cl; split <;> (try split) <;> omega
theorem hd_of {a : Int} (h : -1099511627776 ≤ a) (h' : a ≤ 1099511627776) : hd a = a := by unfold hd cl; rw [if_neg (by omega), if_neg (by omega)]
theorem hd_hi {a : Int} (h : 1099511627776 ≤ a) : hd a = 1099511627776 := by unfold hd cl; rw [if_neg (by omega)]; split <;> omega
theorem hd_lo {a : Int} (h : a ≤ -1099511627776) : hd a = -1099511627776 := by unfold hd cl; split <;> (try split) <;> omega
theorem cl_bd (a lo hi : Int) (h : lo ≤ hi) : lo ≤ cl a lo hi ∧ cl a lo hi ≤ hi := by unfold cl; split <;> (try split) <;> omega
theorem mul_bd (a b : Int) : -1099511627776 ≤ mul a b ∧ mul a b ≤ 1099511627776 := hd_bd _
theorem prod_bd (a b : Int) (ha : -1099511627776 ≤ a ∧ a ≤ 1099511627776) (hb : -1099511627776 ≤ b ∧ b ≤ 1099511627776) : -1208925819614629174706176 ≤ a * b ∧ a * b ≤ 1208925819614629174706176 := by
  obtain ⟨a1, a2⟩ := ha
  obtain ⟨b1, b2⟩ := hb
  have h1 : 0 ≤ (1099511627776 - a) * (1099511627776 + b) := Int.mul_nonneg (by omega) (by omega)
  have h2 : 0 ≤ (1099511627776 + a) * (1099511627776 - b) := Int.mul_nonneg (by omega) (by omega)
  have h3 : 0 ≤ (1099511627776 - a) * (1099511627776 - b) := Int.mul_nonneg (by omega) (by omega)
  have h4 : 0 ≤ (1099511627776 + a) * (1099511627776 + b) := Int.mul_nonneg (by omega) (by omega)
  simp only [Int.add_mul, Int.sub_mul, Int.mul_add, Int.mul_sub] at h1 h2 h3 h4
  omega
def Evt (p : Nat → Prop) : Prop := ∃ n, ∀ k, n ≤ k → p k
theorem Evt.of {p : Nat → Prop} (n : Nat) (h : ∀ k, n ≤ k → p k) : Evt p := ⟨n, h⟩
theorem Evt.all {p : Nat → Prop} (h : ∀ k, p k) : Evt p := ⟨0, fun k _ => h k⟩
theorem Evt.mono {p q : Nat → Prop} (h : Evt p) (hq : ∀ k, p k → q k) : Evt q := h.elim fun n hn => ⟨n, fun k hk => hq k (hn k hk)⟩
theorem Evt.and {p q : Nat → Prop} (h : Evt p) (hq : Evt q) : Evt fun k => p k ∧ q k := by
  obtain ⟨n, hn⟩ := h
  obtain ⟨m, hm⟩ := hq
  exact ⟨max n m, fun k hk => ⟨hn k (by omega), hm k (by omega)⟩⟩
theorem Evt.succ {p q : Nat → Prop} (h : Evt p) (hq : ∀ k, p k → q (k + 1)) : Evt q := by
  obtain ⟨n, hn⟩ := h
  refine ⟨n + 1, fun k hk => ?_⟩
  obtain ⟨m, rfl⟩ : ∃ m, k = m + 1 := ⟨k - 1, by omega⟩
  exact hq m (hn m (by omega))
end Go.Proofs.Ytejnbjclcdmopaa.MB
end

section
set_option linter.unusedVariables false
namespace Go.Proofs.Ytejnbjclcdmopaa.PM
open Go.RowKit Go.Proofs.YtejnbjclcdmopaaW.PrintWords Go.Proofs.YtejnbjclcdmopaaW.PrintLast Go.Proofs.YtejnbjclcdmopaaW.PrintMore Go.Proofs.Ytejnbjclcdmopaa.MB
theorem q_Clamp_eq (a lo hi : Int) : q_Clamp.f a lo hi = some (cl a lo hi) := by
  unfold q_Clamp.f cl; split
  · rfl
  · split <;> rfl
theorem q_Hold_eq (a : Int) : q_Hold.f a = some (hd a) := by unfold q_Hold.f; rw [q_Clamp_eq]; rfl
theorem q_Add_eq (a b : Int) : q_Add.f a b = some (add a b) := by
  unfold q_Add.f
  simp only [q_Hold_eq, Option.bind_some]
  have h1 := hd_bd a
  have h2 := hd_bd b
  rw [w64 (by omega) (by omega)]; rfl
theorem bits_Mul64_eq (x y : Int) (hx : 0 ≤ x ∧ x < 18446744073709551616) (hy : 0 ≤ y ∧ y < 18446744073709551616) :
    bits_Mul64.f x y = some (x * y / 18446744073709551616, x * y % 18446744073709551616) := by
  unfold bits_Mul64.f
  simp only [and32u]
  rw [mul64_parts x y (x / 4294967296) (x % 4294967296) (y / 4294967296) (y % 4294967296) (by omega) (by omega) (by omega) (by omega) (by omega) (by omega), u64w (x * y)]
theorem q_product_eq (a b : Int) (ha : -9223372036854775808 ≤ a ∧ a ≤ 9223372036854775807) (hb : -9223372036854775808 ≤ b ∧ b ≤ 9223372036854775807) :
    q_product.f a b = some ((a * b / 18446744073709551616) % 18446744073709551616, a * b % 18446744073709551616) := by
  unfold q_product.f
  simp only [u64w]
  rw [bits_Mul64_eq _ _ (by omega) (by omega)]
  simp only [Option.bind_some]
  by_cases h1 : a < 0
  · have ea : a % 18446744073709551616 = a + 18446744073709551616 := by omega
    by_cases h2 : b < 0
    · have eb : b % 18446744073709551616 = b + 18446744073709551616 := by omega
      rw [if_pos h1, if_pos h2, ea, eb]
      have e : (a + 18446744073709551616) * (b + 18446744073709551616) = a * b + a * 18446744073709551616 + b * 18446744073709551616 + 340282366920938463463374607431768211456 := by grind
      rw [e]; generalize a * b = p; congr 2 <;> omega
    · have eb : b % 18446744073709551616 = b := by omega
      rw [if_pos h1, if_neg h2, ea, eb]
      have e : (a + 18446744073709551616) * b = a * b + b * 18446744073709551616 := by grind
      rw [e]; generalize a * b = p; congr 2 <;> omega
  · have ea : a % 18446744073709551616 = a := by omega
    by_cases h2 : b < 0
    · have eb : b % 18446744073709551616 = b + 18446744073709551616 := by omega
      rw [if_neg h1, if_pos h2, ea, eb]
      have e : a * (b + 18446744073709551616) = a * b + a * 18446744073709551616 := by grind
      rw [e]; generalize a * b = p; congr 2 <;> omega
    · have eb : b % 18446744073709551616 = b := by omega
      rw [if_neg h1, if_neg h2, ea, eb]
      have hp : 0 ≤ a * b := Int.mul_nonneg (by omega) (by omega)
      have hp2 : a * b ≤ 9223372036854775807 * 9223372036854775807 := Int.mul_le_mul ha.2 hb.2 (by omega) (by omega)
      generalize a * b = p at *; congr 2; omega
theorem or48 (x y : Int) (hx : 0 ≤ x) (hy : 0 ≤ y ∧ y < 281474976710656) : Go.bits .or .u64 (IntKind.u64.wrap (x * 281474976710656)) y = (x * 281474976710656) % 18446744073709551616 + y := by
  rw [u64w]
  exact bits_join .u64 64 (by decide) (fun n h h' => by rw [u64w]; omega) 48 _ y (by omega) (by omega) (by omega) hy.1 (by omega) (by omega)
theorem q_down_eq (k : Nat) (p : Int) (hp : -1208925819614629174706176 ≤ p ∧ p ≤ 1208925819614629174706176) :
    ∃ r, q_down.f (k + 1) ((p / 18446744073709551616) % 18446744073709551616) (p % 18446744073709551616) = some r ∧ hd r = hd (p / 65536) := by
  unfold q_down.f
  rw [or48 _ _ (by omega) (by omega)]
  generalize hw : wrap64 (p / 18446744073709551616 % 18446744073709551616) = t
  have ht : t = p / 18446744073709551616 := by rw [← hw]; unfold wrap64; omega
  generalize hv : (p / 18446744073709551616 % 18446744073709551616 * 281474976710656) % 18446744073709551616 + p % 18446744073709551616 / 65536 = v
  have hv' : v = (p / 65536) % 18446744073709551616 := by rw [← hv]; omega
  clear hv hw
  have h1 : ¬ t / 65536 < -1 := by omega
  rw [if_neg h1]
  by_cases h2 : t / 65536 = -1
  · rw [if_pos h2]
    by_cases h3 : v / 9223372036854775808 = 0
    · have e : ((v / 9223372036854775808) == 0) = true := by simpa using h3
      rw [e]; simp only [q_down.j0, if_true]
      exact ⟨_, rfl, by rw [hd_lo (by omega), hd_lo (by omega)]⟩
    · have e : ((v / 9223372036854775808) == 0) = false := by simpa using h3
      rw [e]; simp only [q_down.j0]
      rw [if_neg (by decide), if_neg (by omega), if_neg (by omega)]
      exact ⟨_, rfl, by congr 1; unfold wrap64; omega⟩
  · rw [if_neg h2]; simp only [q_down.j0]
    rw [if_neg (by decide)]
    by_cases h4 : t / 65536 > 0
    · rw [if_pos h4]; exact ⟨_, rfl, by rw [hd_hi (by omega), hd_hi (by omega)]⟩
    · rw [if_neg h4, if_pos (by omega)]
      by_cases h3 : v / 9223372036854775808 = 0
      · rw [if_pos h3]; exact ⟨_, rfl, by congr 1; unfold wrap64; omega⟩
      · rw [if_neg h3]; exact ⟨_, rfl, by rw [hd_hi (by omega), hd_hi (by omega)]⟩
theorem q_Mul_eq (k : Nat) (a b : Int) : q_Mul.f (k + 1) a b = some (mul a b) := by
  unfold q_Mul.f
  simp only [q_Hold_eq, Option.bind_some]
  have h1 := hd_bd a
  have h2 := hd_bd b
  rw [q_product_eq _ _ (by omega) (by omega)]
  simp only [Option.bind_some]
  obtain ⟨r, e, h⟩ := q_down_eq k _ (prod_bd _ _ h1 h2)
  rw [e]; simp only [Option.bind_some]
  rw [h]; rfl
theorem q_Mul_ge {k : Nat} (hk : 1 ≤ k) (a b : Int) : q_Mul.f k a b = some (mul a b) := by
  obtain ⟨m, rfl⟩ : ∃ m, k = m + 1 := ⟨k - 1, by omega⟩
  exact q_Mul_eq m a b
end Go.Proofs.Ytejnbjclcdmopaa.PM
end

section
set_option linter.unusedVariables false
namespace Go.Proofs.Ytejnbjclcdmopaa.MB
def bend (a b t : Int) : Int :=
  add (add (mul (3 * mul (mul (65536 - cl t 0 65536) (65536 - cl t 0 65536)) (cl t 0 65536)) a) (mul (3 * mul (mul (65536 - cl t 0 65536) (cl t 0 65536)) (cl t 0 65536)) b)) (mul (mul (cl t 0 65536) (cl t 0 65536)) (cl t 0 65536))
def halve : Nat → (Int → Int) → Int → Int → Int → Int
  | 0, _, _, lo, _ => lo
  | n + 1, g, x, lo, hi => if g ((lo + hi) / 2) ≤ x then halve n g x ((lo + hi) / 2) hi else halve n g x lo ((lo + hi) / 2)
def curve (x1 y1 x2 y2 x : Int) : Int := if x ≤ 0 then 0 else if x ≥ 65536 then 65536 else bend y1 y2 (halve 16 (bend x1 x2) x 0 65536)
def prt (a b t : Int) : Int := if hd t ≤ hd a then 0 else if hd t ≥ hd b then 65536 else (hd t - hd a) * 65536 / (hd b - hd a)
end Go.Proofs.Ytejnbjclcdmopaa.MB
namespace Go.Proofs.Ytejnbjclcdmopaa.PM
open Go.RowKit Go.Proofs.YtejnbjclcdmopaaW.PrintWords Go.Proofs.YtejnbjclcdmopaaW.PrintLast Go.Proofs.YtejnbjclcdmopaaW.PrintMore Go.Proofs.Ytejnbjclcdmopaa.MB
theorem ease_Bend_eq {k : Nat} (hk : 1 ≤ k) (a b t : Int) : ease_Bend.f k a b t = some (bend a b t) := by
  unfold ease_Bend.f
  have hc := cl_bd t 0 65536 (by omega)
  rw [q_Clamp_eq]
  simp only [Option.bind_some]
  rw [w64 (x := 65536 - cl t 0 65536) (by omega) (by omega)]
  simp only [q_Mul_ge hk, Option.bind_some]
  have h1 := mul_bd (mul (65536 - cl t 0 65536) (65536 - cl t 0 65536)) (cl t 0 65536)
  have h2 := mul_bd (mul (65536 - cl t 0 65536) (cl t 0 65536)) (cl t 0 65536)
  rw [w64 (by omega) (by omega), w64 (by omega) (by omega)]
  simp only [q_Add_eq, Option.bind_some]
  rfl
theorem ease_At_l0 (x1 y1 x2 y2 x : Int) : ∀ (n k : Nat) (lo hi i : Int), 0 ≤ lo → lo ≤ hi → hi ≤ 65536 → i = 16 - (n : Int) → 0 ≤ i → n + 2 ≤ k →
    ease_At.l0 k x lo hi i x1 y1 x2 y2 = some (bend y1 y2 (halve n (bend x1 x2) x lo hi)) := by
  intro n
  induction n with
  | zero =>
    intro k lo hi i h1 h2 h3 h4 h5 hk
    obtain ⟨k, rfl⟩ : ∃ m, k = m + 1 := ⟨k - 1, by omega⟩
    simp only [ease_At.l0]
    rw [if_neg (by omega), ease_Bend_eq (by omega)]
    rfl
  | succ n ih =>
    intro k lo hi i h1 h2 h3 h4 h5 hk
    obtain ⟨k, rfl⟩ : ∃ m, k = m + 1 := ⟨k - 1, by omega⟩
    simp only [ease_At.l0]
    rw [if_pos (by omega), w64 (x := lo + hi) (by omega) (by omega), ease_Bend_eq (by omega)]
    simp only [Option.bind_some, halve]
    rw [w64 (x := i + 1) (by omega) (by omega)]
    split
    · exact ih _ _ _ _ (by omega) (by omega) h3 (by omega) (by omega) (by omega)
    · exact ih _ _ _ _ h1 (by omega) (by omega) (by omega) (by omega) (by omega)
theorem ease_At_eq {k : Nat} (hk : 18 ≤ k) (x1 y1 x2 y2 x : Int) : ease_At.f k x1 y1 x2 y2 x = some (curve x1 y1 x2 y2 x) := by
  unfold ease_At.f curve
  split
  · rfl
  · split
    · rfl
    · exact ease_At_l0 x1 y1 x2 y2 x 16 k 0 65536 0 (by omega) (by omega) (by omega) (by omega) (by omega) (by omega)
theorem part_of (a b t : Int) (h1 : ¬ hd t ≤ hd a) (h2 : ¬ hd t ≥ hd b) : wrap64 (hd b - hd a) ≠ 0 ∧ wrap64 (Int.tdiv (wrap64 ((wrap64 (hd t - hd a)) * 65536)) (wrap64 (hd b - hd a))) = (hd t - hd a) * 65536 / (hd b - hd a) := by
  have ha := hd_bd a
  have hb := hd_bd b
  have ht := hd_bd t
  generalize hd a = x at *
  generalize hd b = y at *
  generalize hd t = z at *
  rw [w64 (x := y - x) (by omega) (by omega), w64 (x := z - x) (by omega) (by omega), w64 (x := (z - x) * 65536) (by omega) (by omega)]
  refine ⟨by omega, ?_⟩
  rw [Int.tdiv_eq_ediv_of_nonneg (by omega)]
  have q1 : 0 ≤ (z - x) * 65536 / (y - x) := Int.ediv_nonneg (by omega) (by omega)
  have q2 : (z - x) * 65536 / (y - x) ≤ (z - x) * 65536 := Int.ediv_le_self _ (by omega)
  exact w64 (by omega) (by omega)
theorem ease_Part_eq (a b t : Int) : ease_Part.f a b t = some (prt a b t) := by
  unfold ease_Part.f prt
  simp only [q_Hold_eq, Option.bind_some]
  by_cases h1 : hd t ≤ hd a
  · rw [if_pos h1, if_pos h1]
  · rw [if_neg h1, if_neg h1]
    by_cases h2 : hd t ≥ hd b
    · rw [if_pos h2, if_pos h2]
    · rw [if_neg h2, if_neg h2]
      obtain ⟨n, e⟩ := part_of a b t h1 h2
      rw [if_neg n, e]
theorem ease_Right_some (a b c d : Int) : ∃ r, ease_Right.f a b c d = some r := by
  have hw : ∀ x y z : Int, ∃ r, ease_Right_1.f x y z = some r := by intro x y z; unfold ease_Right_1.f; split <;> exact ⟨_, rfl⟩
  unfold ease_Right.f
  obtain ⟨r1, e1⟩ := hw a 0 65536
  obtain ⟨r2, e2⟩ := hw c 0 65536
  obtain ⟨r3, e3⟩ := hw b (-131072) 196608
  obtain ⟨r4, e4⟩ := hw d (-131072) 196608
  simp only [e1, e2, e3, e4, Option.bind_some]
  repeat (first | exact ⟨_, rfl⟩ | split)
end Go.Proofs.Ytejnbjclcdmopaa.PM
set_option linter.unusedVariables false
namespace Go.Proofs.Ytejnbjclcdmopaa.PM
open Go.RowKit Go.Proofs.YtejnbjclcdmopaaW.PrintWords Go.Proofs.YtejnbjclcdmopaaW.PrintLast Go.Proofs.YtejnbjclcdmopaaW.PrintMore Go.Proofs.Ytejnbjclcdmopaa.MB
end Go.Proofs.Ytejnbjclcdmopaa.PM
set_option linter.unusedVariables false
namespace Go.Proofs.Ytejnbjclcdmopaa.MB
end Go.Proofs.Ytejnbjclcdmopaa.MB
set_option linter.unusedVariables false
namespace Go.Proofs.Ytejnbjclcdmopaa.PM
open Go.RowKit Go.Proofs.YtejnbjclcdmopaaW.PrintWords Go.Proofs.YtejnbjclcdmopaaW.PrintLast Go.Proofs.YtejnbjclcdmopaaW.PrintMore Go.Proofs.Ytejnbjclcdmopaa.MB
def fnd (l : List S34) (t : Int) : Nat → Int
  | 0 => -1
  | n + 1 => if (rd_T34 l n).f0 ≤ t then n else fnd l t n
def goes (how x1 y1 x2 y2 p : Int) : Int := if how = 0 then (if p ≥ 65536 then 65536 else 0) else if how = 1 then p else if how = 2 then curve x1 y1 x2 y2 p else 0
def mid (a b t : Int) : Int := add (hd a) (mul (add b (-(hd a))) t)
def kat (l : List S34) (t none : Int) : Int :=
  if (l.length : Int) = 0 then none else
  if fnd l t l.length = -1 then (rd_T34 l 0).f1 else
  if fnd l t l.length = (l.length : Int) - 1 then (rd_T34 l (fnd l t l.length)).f1 else
  mid (rd_T34 l (fnd l t l.length)).f1 (rd_T34 l (fnd l t l.length + 1)).f1
    (goes (rd_T34 l (fnd l t l.length)).f2 (rd_T34 l (fnd l t l.length)).f3.f0 (rd_T34 l (fnd l t l.length)).f3.f1 (rd_T34 l (fnd l t l.length)).f3.f2 (rd_T34 l (fnd l t l.length)).f3.f3
      (prt (rd_T34 l (fnd l t l.length)).f0 (rd_T34 l (fnd l t l.length + 1)).f0 t))
theorem fnd_bd (l : List S34) (t : Int) : ∀ n : Nat, -1 ≤ fnd l t n ∧ fnd l t n < (n : Int) := by
  intro n
  induction n with
  | zero => simp only [fnd]; omega
  | succ n ih => simp only [fnd]; split <;> omega
theorem key_Find_l0 (l : List S34) (t : Int) (hl : (l.length : Int) < 140737488355328) : ∀ (n k : Nat), n ≤ l.length → n + 1 ≤ k → key_Find.l0 k l t ((n : Int) - 1) = some (fnd l t n) := by
  intro n
  induction n with
  | zero =>
    intro k hn hk
    obtain ⟨k, rfl⟩ : ∃ m, k = m + 1 := ⟨k - 1, by omega⟩
    simp only [key_Find.l0]; rw [if_neg (by omega)]; rfl
  | succ n ih =>
    intro k hn hk
    obtain ⟨k, rfl⟩ : ∃ m, k = m + 1 := ⟨k - 1, by omega⟩
    have e : ((n + 1 : Nat) : Int) - 1 = (n : Int) := by omega
    simp only [key_Find.l0, fnd]
    rw [e, if_pos (by omega), if_pos (by omega), if_pos (by omega), w64 (by omega) (by omega), ih k (by omega) (by omega)]
    split <;> rfl
theorem key_Find_eq (l : List S34) (t : Int) (hl : (l.length : Int) < 140737488355328) {k : Nat} (hk : l.length + 1 ≤ k) : key_Find.f k l t = some (fnd l t l.length) := by
  unfold key_Find.f
  rw [w64 (by omega) (by omega)]
  exact key_Find_l0 l t hl l.length k (Nat.le_refl _) hk
theorem key_Goes_eq {k : Nat} (hk : 19 ≤ k) (how x1 y1 x2 y2 p : Int) : key_Goes.f k how x1 y1 x2 y2 p = some (goes how x1 y1 x2 y2 p) := by
  obtain ⟨k, rfl⟩ : ∃ m, k = m + 1 := ⟨k - 1, by omega⟩
  have hj : ∀ b, key_Goes.j0 (k + 1) how p b x1 y1 x2 y2 = some (if b = true then 65536 else if how = 1 then p else if how = 2 then curve x1 y1 x2 y2 p else 0) := by
    intro b
    simp only [key_Goes.j0, ease_At_eq (show 18 ≤ k by omega), Option.bind_some]
    repeat (first | rfl | split)
  unfold key_Goes.f goes
  rw [hj, hj]
  by_cases h : how = 0
  · rw [if_pos h, if_pos h]
    by_cases h2 : p ≥ 65536
    · rw [decide_eq_true h2, if_pos rfl, if_pos h2]
    · rw [decide_eq_false h2, if_neg (by decide), if_neg h2, if_neg (by omega), if_neg (by omega)]
  · rw [if_neg h, if_neg h, if_neg (by decide)]
theorem q_Mid_eq {k : Nat} (hk : 1 ≤ k) (a b t : Int) : q_Mid.f k a b t = some (mid a b t) := by
  unfold q_Mid.f
  have h := hd_bd a
  simp only [q_Hold_eq, Option.bind_some]
  rw [w64 (by omega) (by omega)]
  simp only [q_Add_eq, q_Mul_ge hk, Option.bind_some]
  have e : hd (hd a) = hd a := hd_of h.1 h.2
  unfold mid add
  rw [e]
theorem key_At_eq (l : List S34) (t none : Int) (hl : (l.length : Int) < 140737488355328) {k : Nat} (hk : l.length + 22 ≤ k) : key_At.f k l t none = some (kat l t none) := by
  unfold key_At.f kat
  have hb := fnd_bd l t l.length
  by_cases h0 : (l.length : Int) = 0
  · rw [if_pos h0, if_pos h0]
  · rw [if_neg h0, if_neg h0, key_Find_eq l t hl (by omega)]
    simp only [Option.bind_some]
    generalize fnd l t l.length = i at *
    by_cases h1 : i = -1
    · rw [if_pos h1, if_pos h1, if_pos (by omega)]
    · rw [if_neg h1, if_neg h1, w64 (x := (l.length : Int) - 1) (by omega) (by omega)]
      by_cases h2 : i = (l.length : Int) - 1
      · rw [if_pos h2, if_pos h2, if_pos (by omega), if_pos (by omega)]
      · rw [if_neg h2, if_neg h2, if_pos (by omega), if_pos (by omega), w64 (x := i + 1) (by omega) (by omega), if_pos (by omega), if_pos (by omega)]
        simp only [ease_Part_eq, Option.bind_some, key_Goes_eq (show 19 ≤ k by omega), q_Mid_eq (show 1 ≤ k by omega)]
def way (how x1 y1 x2 y2 : Int) : Bool := if how = 2 then (ease_Right.f x1 y1 x2 y2).getD false else if how = 0 ∨ how = 1 then (x1 == 0 && (y1 == 0 && (x2 == 0 && (y2 == 0)))) else false
def stp (i ahead t how x1 y1 x2 y2 : Int) : Bool := decide (-1073741824 ≤ t) && (decide (t ≤ 1073741824) && (decide (i > 0 → ahead < t) && way how x1 y1 x2 y2))
theorem key_Step_eq {k : Nat} (hk : 1 ≤ k) (i ahead t how x1 y1 x2 y2 : Int) : key_Step.f k i ahead t how x1 y1 x2 y2 = some (stp i ahead t how x1 y1 x2 y2) := by
  obtain ⟨k, rfl⟩ : ∃ m, k = m + 1 := ⟨k - 1, by omega⟩
  obtain ⟨r, hr⟩ := ease_Right_some x1 y1 x2 y2
  have hj : ∀ b, key_Step.j0 (k + 1) how b x1 y1 x2 y2 = some (!b && way how x1 y1 x2 y2) := by
    intro b
    simp only [key_Step.j0, hr, Option.bind_some, way, Option.getD_some]
    cases b
    · rw [if_neg (by decide)]
      by_cases h2 : how = 2
      · rw [if_pos h2, if_pos h2]; rfl
      · rw [if_neg h2, if_neg h2]
        by_cases h0 : how = 0
        · rw [if_pos h0, if_pos (.inl h0)]; rfl
        · rw [if_neg h0]
          by_cases h1 : how = 1
          · rw [if_pos h1, if_pos (.inr h1)]; rfl
          · rw [if_neg h1, if_neg (by omega)]; rfl
    · rw [if_pos rfl]; rfl
  unfold key_Step.f stp
  simp only [hj]
  by_cases c1 : t < -1073741824
  · rw [if_pos c1, decide_eq_false (show ¬ -1073741824 ≤ t by omega)]; rfl
  · rw [if_neg c1, decide_eq_true (show -1073741824 ≤ t by omega)]
    by_cases c2 : t > 1073741824
    · rw [if_pos c2, decide_eq_false (show ¬ t ≤ 1073741824 by omega)]; rfl
    · rw [if_neg c2, decide_eq_true (show t ≤ 1073741824 by omega)]
      by_cases c3 : i > 0
      · rw [if_pos c3]
        by_cases c4 : t ≤ ahead
        · rw [decide_eq_true c4, decide_eq_false (show ¬ (i > 0 → ahead < t) from fun h => by have := h c3; omega)]; rfl
        · rw [decide_eq_false c4, decide_eq_true (show (i > 0 → ahead < t) from fun _ => by omega)]; rfl
      · rw [if_neg c3, decide_eq_true (show (i > 0 → ahead < t) from fun h => absurd h c3)]; rfl
def kok (l : List S34) (i : Int) : Bool :=
  stp i (rd_T34 l (i - 1)).f0 (rd_T34 l i).f0 (rd_T34 l i).f2 (rd_T34 l i).f3.f0 (rd_T34 l i).f3.f1 (rd_T34 l i).f3.f2 (rd_T34 l i).f3.f3 &&
    (decide (-67108864 ≤ (rd_T34 l i).f1) && decide ((rd_T34 l i).f1 ≤ 67108864))
def krt (l : List S34) : Nat → Int → Bool
  | 0, _ => decide ((l.length : Int) ≤ 32)
  | d + 1, i => kok l i && krt l d (i + 1)
theorem key_Right_l0 (l : List S34) (hl : (l.length : Int) < 140737488355328) : ∀ (d k : Nat) (i ahead : Int), 0 ≤ i → i + d = (l.length : Int) → (i > 0 → ahead = (rd_T34 l (i - 1)).f0) → d + 2 ≤ k →
    key_Right.l0 k l ahead l (l.length : Int) i = some (krt l d i) := by
  intro d
  induction d with
  | zero =>
    intro k i ahead h0 hi ha hk
    obtain ⟨k, rfl⟩ : ∃ m, k = m + 1 := ⟨k - 1, by omega⟩
    simp only [key_Right.l0, krt]; rw [if_neg (by omega)]
  | succ d ih =>
    intro k i ahead h0 hi ha hk
    obtain ⟨k, rfl⟩ : ∃ m, k = m + 1 := ⟨k - 1, by omega⟩
    simp only [key_Right.l0, krt]
    rw [if_pos (by omega), if_pos h0, if_pos (by omega), key_Step_eq (by omega), w64 (by omega) (by omega), ih k (i + 1) _ (by omega) (by omega) (fun _ => by rw [show i + 1 - 1 = i by omega]) (by omega)]
    simp only [Option.bind_some]
    have e : stp i ahead (rd_T34 l i).f0 (rd_T34 l i).f2 (rd_T34 l i).f3.f0 (rd_T34 l i).f3.f1 (rd_T34 l i).f3.f2 (rd_T34 l i).f3.f3 = stp i (rd_T34 l (i - 1)).f0 (rd_T34 l i).f0 (rd_T34 l i).f2 (rd_T34 l i).f3.f0 (rd_T34 l i).f3.f1 (rd_T34 l i).f3.f2 (rd_T34 l i).f3.f3 := by
      by_cases hp : i > 0
      · rw [ha hp]
      · unfold stp
        rw [decide_eq_true (show (i > 0 → ahead < (rd_T34 l i).f0) from fun h => absurd h hp), decide_eq_true (show (i > 0 → (rd_T34 l (i - 1)).f0 < (rd_T34 l i).f0) from fun h => absurd h hp)]
    rw [e]
    unfold kok
    cases stp i (rd_T34 l (i - 1)).f0 (rd_T34 l i).f0 (rd_T34 l i).f2 (rd_T34 l i).f3.f0 (rd_T34 l i).f3.f1 (rd_T34 l i).f3.f2 (rd_T34 l i).f3.f3
    · rw [if_neg (by decide)]; rfl
    · rw [if_pos rfl, Bool.true_and]
      by_cases c1 : (rd_T34 l i).f1 < -67108864
      · rw [if_pos c1, decide_eq_false (show ¬ -67108864 ≤ (rd_T34 l i).f1 by omega)]; rfl
      · rw [if_neg c1, decide_eq_true (show -67108864 ≤ (rd_T34 l i).f1 by omega)]
        by_cases c2 : (rd_T34 l i).f1 > 67108864
        · rw [if_pos c2, decide_eq_false (show ¬ (rd_T34 l i).f1 ≤ 67108864 by omega)]; rfl
        · rw [if_neg c2, decide_eq_true (show (rd_T34 l i).f1 ≤ 67108864 by omega)]; rfl
theorem key_Right_eq (l : List S34) (hl : (l.length : Int) < 140737488355328) {k : Nat} (hk : l.length + 2 ≤ k) : key_Right.f k l = some (krt l l.length 0) := by
  unfold key_Right.f
  exact key_Right_l0 l hl l.length k 0 0 (by omega) (by omega) (fun h => absurd h (by omega)) hk
end Go.Proofs.Ytejnbjclcdmopaa.PM
set_option linter.unusedVariables false
namespace Go.Proofs.Ytejnbjclcdmopaa.PM
open Go.RowKit Go.Proofs.YtejnbjclcdmopaaW.PrintWords Go.Proofs.YtejnbjclcdmopaaW.PrintLast Go.Proofs.YtejnbjclcdmopaaW.PrintMore Go.Proofs.Ytejnbjclcdmopaa.MB
theorem known5 {k : Nat} (hk : 24 ≤ k) : mutoscopelaw5_known.f k = some true := by
  unfold mutoscopelaw5_known.f
  simp only [Option.bind_some]
  have h2 : (([(⟨0, 0, 1, (⟨0, 0, 0, 0⟩ : S23)⟩ : S34), (⟨10, 10, 0, (⟨0, 0, 0, 0⟩ : S23)⟩ : S34)] : List (S34)).length : Int) < 140737488355328 := by decide
  have h2' : (([(⟨1, 0, 0, (⟨0, 0, 0, 0⟩ : S23)⟩ : S34), (⟨1, 0, 0, (⟨0, 0, 0, 0⟩ : S23)⟩ : S34)] : List (S34)).length : Int) < 140737488355328 := by decide
  rw [key_At_eq _ _ _ h2 hk, key_At_eq _ _ _ (by decide) (show ([] : List S34).length + 22 ≤ k from by simpa using (by omega : 22 ≤ k)), key_Find_eq _ _ h2 (show 3 ≤ k by omega), key_Find_eq _ _ h2 (show 3 ≤ k by omega), key_Right_eq _ h2 (show 4 ≤ k by omega), key_Right_eq _ h2' (show 4 ≤ k by omega)]
  simp only [Option.bind_some]
  rw [if_pos (by decide +kernel), if_pos (by decide +kernel), if_pos (by decide +kernel), if_pos (by decide +kernel), if_pos (by decide +kernel)]
  decide +kernel
end Go.Proofs.Ytejnbjclcdmopaa.PM
end

section
set_option linter.unusedVariables false
namespace Go.Proofs.Ytejnbjclcdmopaa.PM
open Go.RowKit Go.Proofs.YtejnbjclcdmopaaW.PrintWords Go.Proofs.YtejnbjclcdmopaaW.PrintLast Go.Proofs.YtejnbjclcdmopaaW.PrintMore Go.Proofs.Ytejnbjclcdmopaa.MB
theorem next_ex (tape : List Int) (s a : Int) (hs : 0 ≤ s) (hl : (tape.length : Int) < 140737488355328) (ha : 0 < a) : ∃ v s', (∀ k, 1 ≤ k → mutoscopekeep_Tape_Next.f k tape s a = some (v, s')) ∧ 0 ≤ v ∧ v < a ∧ 0 ≤ s' := by
  by_cases h : s ≥ (tape.length : Int)
  · exact ⟨0, s, fun k _ => by unfold mutoscopekeep_Tape_Next.f; rw [if_pos h], by omega, ha, hs⟩
  · have w1 : ∀ x : Int, ∃ v : Int, (∀ k, 1 ≤ k → mutoscopebook_Within.f k x 0 1073741824 = some v) ∧ 0 ≤ v := fun x => by
      have hq : (wrap64 ((wrap64 ((1073741824 : Int) - 0)) + 1)) = 1073741825 := by decide +kernel
      by_cases h1 : 0 ≤ x ∧ x ≤ 1073741824
      · refine ⟨x, fun k hk => ?_, h1.1⟩
        obtain ⟨k, rfl⟩ : ∃ m, k = m + 1 := ⟨k - 1, by omega⟩
        unfold mutoscopebook_Within.f
        rw [if_pos (by omega), show decide (x ≤ 1073741824) = true from decide_eq_true h1.2]; simp [mutoscopebook_Within.j0]
      · have t1 : Int.tmod x 1073741825 < 1073741825 := Int.tmod_lt_of_pos x (by decide)
        have t2 : -1073741825 < Int.tmod x 1073741825 := by have := Int.tmod_lt_of_pos (-x) (show (0 : Int) < 1073741825 by decide); rw [Int.neg_tmod] at this; omega
        have hj : ∀ k, mutoscopebook_Within.f (k + 1) x 0 1073741824 = mutoscopebook_Within.j0 (k + 1) x 0 1073741824 false := fun k => by
          unfold mutoscopebook_Within.f
          split
          · rw [show decide (x ≤ 1073741824) = false from decide_eq_false (by omega)]
          · rfl
        by_cases h2 : Int.tmod x 1073741825 < 0
        · refine ⟨Int.tmod x 1073741825 + 1073741825, fun k hk => ?_, by omega⟩
          obtain ⟨k, rfl⟩ : ∃ m, k = m + 1 := ⟨k - 1, by omega⟩
          rw [hj]; simp only [mutoscopebook_Within.j0, hq]
          rw [if_neg (by decide), if_neg (by decide), if_pos h2]
          congr 1; unfold wrap64; omega
        · refine ⟨Int.tmod x 1073741825, fun k hk => ?_, by omega⟩
          obtain ⟨k, rfl⟩ : ∃ m, k = m + 1 := ⟨k - 1, by omega⟩
          rw [hj]; simp only [mutoscopebook_Within.j0, hq]
          rw [if_neg (by decide), if_neg (by decide), if_neg h2]
          congr 1; unfold wrap64; omega
    have hw : wrap64 (wrap64 (s + 1) - 1) = s := by unfold wrap64; omega
    obtain ⟨v, v1, v2⟩ := w1 (rd tape s)
    refine ⟨Int.tmod v a, s + 1, fun k hk => ?_, Int.tmod_nonneg _ v2, Int.tmod_lt_of_pos _ ha, by omega⟩
    unfold mutoscopekeep_Tape_Next.f
    rw [if_neg h, hw, if_pos hs, if_pos (by omega), v1 k hk]
    simp only [Option.bind_some]
    rw [if_neg (by omega), w64 (by omega) (by omega)]
theorem number_gx (lo hi : Int) (h1 : -100 ≤ lo) (h2 : lo ≤ hi) (h3 : hi ≤ 100) (tape : List Int) (s : Int) (hs : 0 ≤ s) (hl : (tape.length : Int) < 140737488355328) : ∃ v s', (∀ k, 1 ≤ k → mutoscopekeep_Tape_Number.f k tape s lo hi = some (v, s')) ∧ lo * 65536 ≤ v ∧ v ≤ hi * 65536 + 65535 ∧ 0 ≤ s' := by
  obtain ⟨v1, s1, e1, l1, u1, p1⟩ := next_ex tape s (hi - lo + 1) hs hl (by omega)
  obtain ⟨v2, s2, e2, l2, u2, p2⟩ := next_ex tape s1 4 p1 hl (by decide)
  obtain ⟨v3, s3, e3, l3, u3, p3⟩ := next_ex tape s2 65536 p2 hl (by decide)
  have hq : (wrap64 ((wrap64 (hi - lo)) + 1)) = hi - lo + 1 := by unfold wrap64; omega
  by_cases h0 : v2 = 0
  · refine ⟨(lo + v1) * 65536 + 32768, s2, fun k hk => ?_, by omega, by omega, p2⟩
    unfold mutoscopekeep_Tape_Number.f
    rw [hq, e1 k hk]; simp only [Option.bind_some]
    rw [e2 k hk]; simp only [Option.bind_some]
    rw [if_pos h0]; congr 2; unfold wrap64; omega
  · by_cases h1 : v2 = 1
    · refine ⟨(lo + v1) * 65536 + v3, s3, fun k hk => ?_, by omega, by omega, p3⟩
      unfold mutoscopekeep_Tape_Number.f
      rw [hq, e1 k hk]; simp only [Option.bind_some]
      rw [e2 k hk]; simp only [Option.bind_some]
      rw [if_neg h0, if_pos h1, e3 k hk]; simp only [Option.bind_some]
      congr 2; unfold wrap64; omega
    · refine ⟨(lo + v1) * 65536, s2, fun k hk => ?_, by omega, by omega, p2⟩
      unfold mutoscopekeep_Tape_Number.f
      rw [hq, e1 k hk]; simp only [Option.bind_some]
      rw [e2 k hk]; simp only [Option.bind_some]
      rw [if_neg h0, if_neg h1]; congr 2; unfold wrap64; omega
end Go.Proofs.Ytejnbjclcdmopaa.PM
end
