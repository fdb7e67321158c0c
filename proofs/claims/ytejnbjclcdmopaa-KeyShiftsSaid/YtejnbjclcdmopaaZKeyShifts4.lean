/- Lines of 8 texts of this seat, merged by wip/shake.py (a program of this session): what the statement's proof does not use is left out. -/
import Derived.Test.YtejnbjclcdmopaaZKeyShifts3

section
namespace Go.Proofs.Ytejnbjclcdmopaa.PA
open Go.RowKit Go.Proofs.YtejnbjclcdmopaaW.PrintWords Go.Proofs.YtejnbjclcdmopaaW.PrintLast Go.Proofs.YtejnbjclcdmopaaW.PrintMore
attribute [local go_sem] max2_int min2_int max_two min_two max_three min_three max_four min_four
attribute [local go_sem] Go.Proofs.Ytejnbjclcdmopaa.MS.isSome_setCell
set_option linter.unusedVariables false
set_option linter.unusedSimpArgs false
theorem MS.am {p : Prop} (h : p) : Aside0 p := ⟨h⟩
mutual
def mutoscopelaw5_KeyShifts.l0 : Nat → Int → List (S34) → Int → Int → List (S34) → List (S34) → List (S34) → Int → Int → Option (Bool)
 | 0, _, _, _, _, _, _, _, _, _ => none
 | k + 1, x3, x9, x10, x11, x12, x13, x26, x27, x28 => if x28 < x27 then (if 0 ≤ x28 then (if x28 < (x26.length : Int) then (if ((rd_T34 x26 x28).f2) = 2 then (mutoscopelaw5_KeyShifts.j1 k x3 x9 x10 x11 x12 x13 x26 x27 x28 ((rd_T34 x26 x28).f0) ((rd_T34 x26 x28).f1) 1 0 0 0 0) else (mutoscopelaw5_KeyShifts.j1 k x3 x9 x10 x11 x12 x13 x26 x27 x28 ((rd_T34 x26 x28).f0) ((rd_T34 x26 x28).f1) ((rd_T34 x26 x28).f2) ((rd_T34 x26 x28).f3.f0) ((rd_T34 x26 x28).f3.f1) ((rd_T34 x26 x28).f3.f2) ((rd_T34 x26 x28).f3.f3))) else (none)) else (none)) else (mutoscopelaw5_KeyShifts.l1 k x3 x9 x10 x11 x12 x13 (x9.length : Int) 0)
def mutoscopelaw5_KeyShifts.j1 : Nat → Int → List (S34) → Int → Int → List (S34) → List (S34) → List (S34) → Int → Int → Int → Int → Int → Int → Int → Int → Int → Option (Bool)
 | 0, _, _, _, _, _, _, _, _, _, _, _, _, _, _, _, _ => none
 | k + 1, x3, x9, x10, x11, x12, x13, x26, x27, x28, x478000, x478001, x478002, x478003, x478004, x478005, x478006 => (some (([(⟨wrap64 (x478000 + x10), x478001 / 4, x478002, (⟨x478003, x478004, x478005, x478006⟩ : S23)⟩ : S34)] : List (S34)) : List (S34))).bind fun y480 => (if x12.length + y480.length < 2513169434916 then ((some (([(⟨x478000, wrap64 ((x478001 / 4) + x11), x478002, (⟨x478003, x478004, x478005, x478006⟩ : S23)⟩ : S34)] : List (S34)) : List (S34))).bind fun y486 => (if x13.length + y486.length < 2513169434916 then (mutoscopelaw5_KeyShifts.l0 k x3 x9 x10 x11 (x12 ++ y480) (x13 ++ y486) x26 x27 (wrap64 (x28 + 1))) else (none))) else (none))
def mutoscopelaw5_KeyShifts.l1 : Nat → Int → List (S34) → Int → Int → List (S34) → List (S34) → Int → Int → Option (Bool)
 | 0, _, _, _, _, _, _, _, _ => none
 | k + 1, x3, x9, x10, x11, x12, x13, x64, x65 => if x65 < x64 then (if 0 ≤ x65 then (if x65 < (x12.length : Int) then (if x65 < (x9.length : Int) then ((some (x9.set (x65 : Int).toNat (⟨(rd_T34 x9 x65).f0, (rd_T34 x12 x65).f1, (rd_T34 x9 x65).f2, (⟨(rd_T34 x9 x65).f3.f0, (rd_T34 x9 x65).f3.f1, (rd_T34 x9 x65).f3.f2, (rd_T34 x9 x65).f3.f3⟩ : S23)⟩ : S34) : List (S34))).bind fun y493 => ((some (y493.set (x65 : Int).toNat (⟨(rd_T34 y493 x65).f0, (rd_T34 y493 x65).f1, (rd_T34 x12 x65).f2, (⟨(rd_T34 y493 x65).f3.f0, (rd_T34 y493 x65).f3.f1, (rd_T34 y493 x65).f3.f2, (rd_T34 y493 x65).f3.f3⟩ : S23)⟩ : S34) : List (S34))).bind fun y496 => (mutoscopelaw5_KeyShifts.l1 k x3 (y496.set (x65 : Int).toNat (⟨(rd_T34 y496 x65).f0, (rd_T34 y496 x65).f1, (rd_T34 y496 x65).f2, (⟨(rd_T34 x12 x65).f3.f0, (rd_T34 x12 x65).f3.f1, (rd_T34 x12 x65).f3.f2, (rd_T34 x12 x65).f3.f3⟩ : S23)⟩ : S34)) x10 x11 x12 x13 x64 (wrap64 (x65 + 1))))) else (none)) else (none)) else (none)) else ((key_At.f k x12 (wrap64 ((Go.bits .and .i64 x3 255) + x10)) 5).bind fun t498 => ((key_At.f k x9 (Go.bits .and .i64 x3 255) 5).bind fun t499 => (if t498 = t499 then (if (x9.length : Int) = 0 then ((mutoscopelaw5_known.f k).bind fun t500 => (some t500)) else ((key_At.f k x13 (Go.bits .and .i64 x3 255) 0).bind fun t501 => ((key_At.f k x9 (Go.bits .and .i64 x3 255) 0).bind fun t502 => (if t501 = (wrap64 (t502 + x11)) then ((mutoscopelaw5_known.f k).bind fun t503 => (some t503)) else (none))))) else (none))))
end
def mutoscopelaw5_KeyShifts.f (k : Nat) (l0 : List (S34)) (a1 : Int) (a2 : Int) (a3 : Int) : Option (Bool) := (mutoscopelaw5_rising.f k l0).bind fun t473 => (mutoscopelaw5_KeyShifts.l0 k a3 t473 (Go.bits .and .i64 a1 1023) (Int.tmod a2 65536) ([] : List (S34)) ([] : List (S34)) t473 (t473.length : Int) 0)
def mutoscopelaw5_KeyShifts.T13 : Bool × List (List Nat × List Nat) := (true, [([], []), ([], []), ([1], [1]), ([0, 2], [0, 2]), ([], []), ([], []), ([5], [5]), ([4, 6, 3], [4, 6]), ([3, 7, 0, 1, 2, 3], [0, 3]), ([7, 8, 0, 1, 2, 3, 4, 5, 6, 7, 8], [4, 7])])
def mutoscopelaw5_KeyShifts.B13 : List Nat := [0, 0, 2, 7, 0, 0, 32, 127, 255, 511]
theorem mutoscopelaw5_KeyShifts.tab13 : rtab .any (opsOf Try.f8 13) = mutoscopelaw5_KeyShifts.T13 := by kernel_rfl
theorem mutoscopelaw5_KeyShifts.bits13 : waitsOk mutoscopelaw5_KeyShifts.T13.2 mutoscopelaw5_KeyShifts.B13 = true := by kernel_rfl
def mutoscopelaw5_KeyShifts.T19 : Bool × List (List Nat × List Nat) := (true, [([], []), ([], []), ([], []), ([], []), ([], []), ([], []), ([4, 5], [4, 5]), ([6], [6]), ([7], [7]), ([], []), ([], []), ([9, 10], [9, 10]), ([11], [11]), ([12], [12]), ([0, 1, 0, 1, 4, 5, 6, 7, 8, 13], [0, 1]), ([14, 0, 1, 4, 5, 6, 7, 8, 13], [14]), ([15, 8, 0, 1, 4, 5, 6, 7, 8, 13], [8, 15]), ([2, 3, 0, 1, 2, 3, 4, 5, 6, 7, 8, 9, 10, 11, 12, 13, 14, 15, 16], [2, 3]), ([17, 0, 1, 2, 3, 4, 5, 6, 7, 8, 9, 10, 11, 12, 13, 14, 15, 16], [17]), ([18, 13, 16, 0, 1, 2, 3, 4, 5, 6, 7, 8, 9, 10, 11, 12, 13, 14, 15, 16], [13, 18])])
def mutoscopelaw5_KeyShifts.B19 : List Nat := [0, 0, 0, 0, 0, 0, 48, 112, 240, 0, 0, 1536, 3584, 7680, 16371, 32755, 65523, 131071, 262143, 524287]
theorem mutoscopelaw5_KeyShifts.tab19 : rtab .any (opsOf Try.f8 19) = mutoscopelaw5_KeyShifts.T19 := by kernel_rfl
theorem mutoscopelaw5_KeyShifts.bits19 : waitsOk mutoscopelaw5_KeyShifts.T19.2 mutoscopelaw5_KeyShifts.B19 = true := by kernel_rfl
set_option maxHeartbeats 8000000 in
set_option maxRecDepth 100000 in
theorem mutoscopelaw5_KeyShifts.calls (k : Nat) (A0 : Option Addr) (c0 : Nat) (l0 : List (S34)) (a1 : Int) (a2 : Int) (a3 : Int) (r : Bool) (w : World) (hr0 : Kd.C k34 w A0 l0.length l0) (hc0 : l0.length ≤ c0) (h : mutoscopelaw5_KeyShifts.f k l0 a1 a2 a3 = some r) :
  Calls Try.prog 8 #[.slice A0 l0.length c0, .int .i64 a1, .int .i64 a2, .int .i64 a3] w fun e w' => e = .returned (.bool r) ∧ Below w.heap.size w w' := by
 have hu34 := Try.underlying34
 have hu23 := Try.underlying23
 have HR0 := Aside0.mk hr0
 have HC0 := Aside0.mk hc0
 clear hr0 hc0
 have HB := MS.am (Below.refl w.heap.size w)
 have H : ((mutoscopelaw5_rising.f k l0).bind fun t473 => (mutoscopelaw5_KeyShifts.l0 k a3 t473 (Go.bits .and .i64 a1 1023) (Int.tmod a2 65536) ([] : List (S34)) ([] : List (S34)) t473 (t473.length : Int) 0)) = some r := h
 clear h
 replace H := Option.bind_eq_some_iff.mp H
 obtain ⟨t473, A50, H⟩ := H
 replace H : (mutoscopelaw5_KeyShifts.l0 k a3 t473 (Go.bits .and .i64 a1 1023) (Int.tmod a2 65536) ([] : List (S34)) ([] : List (S34)) t473 (t473.length : Int) 0) = some r := H
 have A5 := Aside0.mk A50
 clear A50
 have H' := Aside0.mk H
 clear H
 go_enter Try.func8, Try.ntmps8
 go_wp2_with (first | ((with_reducible refine gate_callee (f := 17) rfl ?_); refine goesL_ (some 21) rfl rfl Try.func17 (by kernel_rfl) rfl #[.slice A0 l0.length c0] rfl (by (try simp only [List.map_toArray, List.map_cons, List.map_nil]); first | done | rfl | (simp only [List.length_drop, List.length_take]; rfl)) ?_; (with_reducible refine (mutoscopelaw5_rising.calls k _ _ l0 t473 _ ?side1 ?side2 A5.out).mono ?_); (case side1 => repeat (first | exact HR0.out | (with_reducible refine Kd.C_alloc ?_ _) | (with_reducible refine Kd.C_drewN ?_ _) | (with_reducible refine Kd.C_drew ?_))); (case side2 => exact HC0.out); rintro e w6 ⟨v474, rfl, ho0, hb⟩; refine ⟨_, rfl, ?_⟩; have n0_ := MS.am (Kd.R_lower ho0 (below_size (by repeat (first | (with_reducible first | exact HB.out | apply below_alloc | apply pw_below_drewN | apply below_drew1) | exact HB.out)))); have n1_ := MS.am (below_step (by repeat (first | (with_reducible first | exact HB.out | apply below_alloc | apply pw_below_drewN | apply below_drew1) | exact HB.out)) hb); clear HB; have HO475 := n0_; have HB := n1_; clear n0_ n1_; (try clear hb); (try clear hk); (try clear hi); (try clear ho0); obtain ⟨Ao7, co7, eo7⟩ := Kd.R_slice HO475.out; subst eo7))
 go_loopg [12, 13, 28] k (fun kq v12 v13 v28 w' => ∃ (x12_1 : List (S34)) (x13_1 : List (S34)) (x28_1 : Int), v28 = .int .i64 x28_1 ∧ Aside0 (mutoscopelaw5_KeyShifts.l0 kq a3 t473 (Go.bits .and .i64 a1 1023) (Int.tmod a2 65536) x12_1 x13_1 t473 (t473.length : Int) x28_1 = some r) ∧ Aside0 (kq ≤ k) ∧ Aside0 (Kd.R k34 34 w' w.heap.size (fun k_ => some k_ ≠ (v12 : Value).ownBlock ∧ some k_ ≠ (v13 : Value).ownBlock) (.slice Ao7 t473.length co7) t473) ∧ Aside0 (Kd.R k34 34 w' w.heap.size (fun k_ => some k_ ≠ ((.slice Ao7 t473.length co7) : Value).ownBlock ∧ some k_ ≠ (v13 : Value).ownBlock ∧ some k_ ≠ ((.slice Ao7 t473.length co7) : Value).ownBlock) v12 x12_1) ∧ Aside0 (Kd.R k34 34 w' w.heap.size (fun k_ => some k_ ≠ ((.slice Ao7 t473.length co7) : Value).ownBlock ∧ some k_ ≠ (v12 : Value).ownBlock ∧ some k_ ≠ ((.slice Ao7 t473.length co7) : Value).ownBlock) v13 x13_1) ∧ Aside0 (Kd.R k34 34 w' w.heap.size (fun k_ => some k_ ≠ (v12 : Value).ownBlock ∧ some k_ ≠ (v13 : Value).ownBlock) (.slice Ao7 t473.length co7) t473) ∧ Aside0 (Below w.heap.size w w'))
 case atStart => exact ⟨(([] : List (S34))), (([] : List (S34))), (0), (by first | rfl | (simp; done) | simp [*]), H', ⟨Nat.le_refl _⟩, ⟨by (with_reducible repeat first | apply Kd.R_alloc | apply Kd.R_drewN | apply Kd.R_drew); exact Kd.R_mono HO475.out (fun _ hk => ⟨(by simp [Value.ownBlock]), (by simp [Value.ownBlock])⟩)⟩, ⟨by first | exact Kd.R_nil _ _ _ _ _ | exact Kd.N_nil _ _ _ _ _ | exact Kd.V_nil _ _ _ _ _ | exact Kd.Q_nil _ _ _ _ _ | exact Kd.S_nil _ _ _ _ _⟩, ⟨by first | exact Kd.R_nil _ _ _ _ _ | exact Kd.N_nil _ _ _ _ _ | exact Kd.V_nil _ _ _ _ _ | exact Kd.Q_nil _ _ _ _ _ | exact Kd.S_nil _ _ _ _ _⟩, ⟨by (with_reducible repeat first | apply Kd.R_alloc | apply Kd.R_drewN | apply Kd.R_drew); exact Kd.R_mono HO475.out (fun _ hk => ⟨(by simp [Value.ownBlock]), (by simp [Value.ownBlock])⟩)⟩, ⟨by repeat (first | (with_reducible first | exact HB.out | apply below_alloc | apply pw_below_drewN | apply below_drew1) | exact HB.out)⟩⟩
 case round =>
  clear H'
  try clear c1
  try clear p2
  obtain ⟨x12_1, x13_1, x28_1, rfl, HA, HK1, HO_9, HO_12, HO_13, HO_26, HB⟩ := hrel
  cases gk with
  | zero => exact absurd HA.out (by simp [mutoscopelaw5_KeyShifts.l0])
  | succ k1 =>
   have H := HA.out
   clear HA
   simp only [mutoscopelaw5_KeyShifts.l0] at H
   by_cases c8 : x28_1 < (t473.length : Int)
   ·rw [if_pos c8] at H
    have c8b0 : decide (x28_1 < (t473.length : Int)) = true := decide_eq_true c8
    clear c8
    by_cases c9 : 0 ≤ x28_1
    ·rw [if_pos c9] at H
     have c9b0 : decide (0 ≤ x28_1) = true := decide_eq_true c9
     clear c9
     by_cases c10 : x28_1 < (t473.length : Int)
     ·rw [if_pos c10] at H
      have c10b0 : decide (x28_1 < (t473.length : Int)) = true := decide_eq_true c10
      clear c10
      have HC11 := Aside0.mk H
      clear H
      have p476 : 0 ≤ (x28_1 : Int) := of_decide_eq_true (by first | (with_reducible assumption) | assumption)
      have q476 : x28_1 < (t473.length : Int) := of_decide_eq_true (by first | (with_reducible assumption) | assumption)
      obtain ⟨ad476, e476, hx476_0, hx476_1, hx476_2, hx476_3, hx476_4, hx476_5, hx476_6⟩ := at_T34 (Kd.R_reads' HO_26.out).2.2 x28_1 p476 q476
      cases e476
      replace p476 := eq_true p476
      replace q476 := eq_true q476
      go_upto_if 34 with (first | ((with_reducible refine gate_dst (N := 15) rfl ?_); (try (refine gate_guard (by rfl) ?_; dsimp only)); refine box_event ?hg (N := 15) ?hd (cs := #[.int .i64 0, .int .i64 0, .int .i64 0, .int .i64 0, .int .i64 0, .int .i64 0, .int .i64 0]) (t := 34) ?hr ?_; (case hd => rfl); (case hg => rfl); (case hr => first | (go_simp; done) | (go_simp; rfl)); intro gb477 hg w12 hbox hb; have n0_ := MS.am (Kd.R_below (Kd.R_elderB (by (with_reducible repeat first | apply Kd.R_alloc | apply Kd.R_drewN | apply Kd.R_drew); exact HO_9.out) gb477 (Nat.le_of_eq hg.symm)) hb); have n1_ := MS.am (Kd.R_below (Kd.R_elderB (by (with_reducible repeat first | apply Kd.R_alloc | apply Kd.R_drewN | apply Kd.R_drew); exact HO_12.out) gb477 (Nat.le_of_eq hg.symm)) hb); have n2_ := MS.am (Kd.R_below (Kd.R_elderB (by (with_reducible repeat first | apply Kd.R_alloc | apply Kd.R_drewN | apply Kd.R_drew); exact HO_13.out) gb477 (Nat.le_of_eq hg.symm)) hb); have n3_ := MS.am (Kd.R_below (Kd.R_elderB (by (with_reducible repeat first | apply Kd.R_alloc | apply Kd.R_drewN | apply Kd.R_drew); exact HO_26.out) gb477 (Nat.le_of_eq hg.symm)) hb); have n4_ := MS.am (below_step (by repeat (first | (with_reducible first | exact HB.out | apply below_alloc | apply pw_below_drewN | apply below_drew1) | exact HB.out)) hb); have n5_ := MS.am (hbox); have n6_ := MS.am ((by rw [hg]; exact (below_size (by repeat (first | (with_reducible first | exact HB.out | apply below_alloc | apply pw_below_drewN | apply below_drew1) | exact HB.out))) : w.heap.size ≤ gb477)); have n7_ := MS.am ((by rw [hg]; exact (below_size (by repeat (first | (with_reducible first | exact HB.out | apply below_alloc | apply pw_below_drewN | apply below_drew1) | exact HB.out))) : w.heap.size ≤ gb477)); clear HO_9; clear HO_12; clear HO_13; clear HO_26; clear HB; have HO_9 := n0_; have HO_12 := n1_; have HO_13 := n2_; have HO_26 := n3_; have HB := n4_; have BK477 := n5_; have GW477 := n6_; have GE477 := n7_; clear n0_ n1_ n2_ n3_ n4_ n5_ n6_ n7_; clear hb hbox hg; have hcz13_0 : w12.cell? ⟨gb477, 0, none⟩ = some (.int .i64 0) := (blk_cell BK477.out 0).trans rfl; have hcz13_1 : w12.cell? ⟨gb477, 1, none⟩ = some (.int .i64 0) := (blk_cell BK477.out 1).trans rfl; have hcz13_2 : w12.cell? ⟨gb477, 2, none⟩ = some (.int .i64 0) := (blk_cell BK477.out 2).trans rfl; have hcz13_3 : w12.cell? ⟨gb477, 3, none⟩ = some (.int .i64 0) := (blk_cell BK477.out 3).trans rfl; have hcz13_4 : w12.cell? ⟨gb477, 4, none⟩ = some (.int .i64 0) := (blk_cell BK477.out 4).trans rfl; have hcz13_5 : w12.cell? ⟨gb477, 5, none⟩ = some (.int .i64 0) := (blk_cell BK477.out 5).trans rfl; have hcz13_6 : w12.cell? ⟨gb477, 6, none⟩ = some (.int .i64 0) := (blk_cell BK477.out 6).trans rfl; have hfz13_0 := blk_frozen BK477.out 0; have hfz13_1 := blk_frozen BK477.out 1; have hfz13_2 := blk_frozen BK477.out 2; have hfz13_3 := blk_frozen BK477.out 3; have hfz13_4 := blk_frozen BK477.out 4; have hfz13_5 := blk_frozen BK477.out 5; have hfz13_6 := blk_frozen BK477.out 6))
      (try simp only [Act.put, List.setIfInBounds_toArray, List.set_cons_zero, List.set_cons_succ])
      go_cut [] (fun wc => ∃ (kq : Nat) (x478002_10 : Int) (x478003_10 : Int) (x478004_10 : Int) (x478005_10 : Int) (x478006_10 : Int), Aside0 (mutoscopelaw5_KeyShifts.j1 kq a3 t473 (Go.bits .and .i64 a1 1023) (Int.tmod a2 65536) x12_1 x13_1 t473 (t473.length : Int) x28_1 ((rd_T34 t473 x28_1).f0) ((rd_T34 t473 x28_1).f1) x478002_10 x478003_10 x478004_10 x478005_10 x478006_10 = some r) ∧ Aside0 (kq ≤ k1) ∧ Aside0 (Kd.R k34 34 wc w.heap.size (fun k_ => some k_ ≠ (u12 : Value).ownBlock ∧ some k_ ≠ (u13 : Value).ownBlock ∧ k_ ≠ gb477) (.slice (some ad476) t473.length co7) t473) ∧ Aside0 (Kd.R k34 34 wc w.heap.size (fun k_ => some k_ ≠ ((.slice (some ad476) t473.length co7) : Value).ownBlock ∧ some k_ ≠ (u13 : Value).ownBlock ∧ some k_ ≠ ((.slice (some ad476) t473.length co7) : Value).ownBlock ∧ k_ ≠ gb477) u12 x12_1) ∧ Aside0 (Kd.R k34 34 wc w.heap.size (fun k_ => some k_ ≠ ((.slice (some ad476) t473.length co7) : Value).ownBlock ∧ some k_ ≠ (u12 : Value).ownBlock ∧ some k_ ≠ ((.slice (some ad476) t473.length co7) : Value).ownBlock ∧ k_ ≠ gb477) u13 x13_1) ∧ Aside0 (Kd.R k34 34 wc w.heap.size (fun k_ => some k_ ≠ (u12 : Value).ownBlock ∧ some k_ ≠ (u13 : Value).ownBlock ∧ k_ ≠ gb477) (.slice (some ad476) t473.length co7) t473) ∧ Aside0 (wc.heap[gb477]? = some (.cells #[.int .i64 ((rd_T34 t473 x28_1).f0), .int .i64 ((rd_T34 t473 x28_1).f1), .int .i64 x478002_10, .int .i64 x478003_10, .int .i64 x478004_10, .int .i64 x478005_10, .int .i64 x478006_10] 34 (0, 0))) ∧ Aside0 (Below w.heap.size w wc))
      case first =>
       have H := HC11.out
       clear HC11
       by_cases c14 : ((rd_T34 t473 x28_1).f2) = 2
       ·rw [if_pos c14] at H
        have c14b0 : (((rd_T34 t473 x28_1).f2) == 2) = true := beq_iff_eq.mpr c14
        have c14b1 : (((rd_T34 t473 x28_1).f2) != 2) = false := bne_eq_false_iff_eq.mpr c14
        clear c14
        (first | rw [c14b0] | (simp only [i64_w, i32_w]; rw [c14b0]) | skip)
        have H' := Aside0.mk H
        clear H
        have hcz15_0 : w12.cell? ⟨gb477, 0, none⟩ = some (.int .i64 0) := (blk_cell BK477.out 0).trans rfl
        have hcz15_1 : w12.cell? ⟨gb477, 1, none⟩ = some (.int .i64 0) := (blk_cell BK477.out 1).trans rfl
        have hcz15_2 : w12.cell? ⟨gb477, 2, none⟩ = some (.int .i64 0) := (blk_cell BK477.out 2).trans rfl
        have hcz15_3 : w12.cell? ⟨gb477, 3, none⟩ = some (.int .i64 0) := (blk_cell BK477.out 3).trans rfl
        have hcz15_4 : w12.cell? ⟨gb477, 4, none⟩ = some (.int .i64 0) := (blk_cell BK477.out 4).trans rfl
        have hcz15_5 : w12.cell? ⟨gb477, 5, none⟩ = some (.int .i64 0) := (blk_cell BK477.out 5).trans rfl
        have hcz15_6 : w12.cell? ⟨gb477, 6, none⟩ = some (.int .i64 0) := (blk_cell BK477.out 6).trans rfl
        have hfz15_0 := blk_frozen BK477.out 0
        have hfz15_1 := blk_frozen BK477.out 1
        have hfz15_2 := blk_frozen BK477.out 2
        have hfz15_3 := blk_frozen BK477.out 3
        have hfz15_4 := blk_frozen BK477.out 4
        have hfz15_5 := blk_frozen BK477.out 5
        have hfz15_6 := blk_frozen BK477.out 6
        go_wp2
        go_meet
        case rel => exact ⟨_, (1), (0), (0), (0), (0), H', ⟨by have := HK1.out; first | omega | exact Nat.le_refl _⟩, ⟨by (with_reducible repeat first | apply Kd.R_alloc | apply Kd.R_drewN | apply Kd.R_drew); exact Kd.R_mono (Kd.R_far (p := ⟨gb477, 6, none⟩) (Kd.R_far (p := ⟨gb477, 5, none⟩) (Kd.R_far (p := ⟨gb477, 4, none⟩) (Kd.R_far (p := ⟨gb477, 3, none⟩) (Kd.R_far (p := ⟨gb477, 2, none⟩) (Kd.R_far (p := ⟨gb477, 6, none⟩) (Kd.R_far (p := ⟨gb477, 5, none⟩) (Kd.R_far (p := ⟨gb477, 4, none⟩) (Kd.R_far (p := ⟨gb477, 3, none⟩) (Kd.R_far (p := ⟨gb477, 2, none⟩) (Kd.R_far (p := ⟨gb477, 1, none⟩) (Kd.R_far (p := ⟨gb477, 0, none⟩) (Kd.R_mono HO_9.out (fun k_ hk => (⟨hk, hk.2⟩ : _ ∧ k_ ≠ gb477))) (fun _ hk => hk.2) (.int .i64 ((rd_T34 t473 x28_1).f0))) (fun _ hk => hk.2) (.int .i64 ((rd_T34 t473 x28_1).f1))) (fun _ hk => hk.2) (.int .i64 ((rd_T34 t473 x28_1).f2))) (fun _ hk => hk.2) (.int .i64 ((rd_T34 t473 x28_1).f3.f0))) (fun _ hk => hk.2) (.int .i64 ((rd_T34 t473 x28_1).f3.f1))) (fun _ hk => hk.2) (.int .i64 ((rd_T34 t473 x28_1).f3.f2))) (fun _ hk => hk.2) (.int .i64 ((rd_T34 t473 x28_1).f3.f3))) (fun _ hk => hk.2) (.int .i64 1)) (fun _ hk => hk.2) (.int .i64 0)) (fun _ hk => hk.2) (.int .i64 0)) (fun _ hk => hk.2) (.int .i64 0)) (fun _ hk => hk.2) (.int .i64 0)) (fun _ hk => ⟨hk.1.1.1, ⟨hk.1.1.2, hk.1.2⟩⟩)⟩, ⟨by (with_reducible repeat first | apply Kd.R_alloc | apply Kd.R_drewN | apply Kd.R_drew); exact Kd.R_mono (Kd.R_far (p := ⟨gb477, 6, none⟩) (Kd.R_far (p := ⟨gb477, 5, none⟩) (Kd.R_far (p := ⟨gb477, 4, none⟩) (Kd.R_far (p := ⟨gb477, 3, none⟩) (Kd.R_far (p := ⟨gb477, 2, none⟩) (Kd.R_far (p := ⟨gb477, 6, none⟩) (Kd.R_far (p := ⟨gb477, 5, none⟩) (Kd.R_far (p := ⟨gb477, 4, none⟩) (Kd.R_far (p := ⟨gb477, 3, none⟩) (Kd.R_far (p := ⟨gb477, 2, none⟩) (Kd.R_far (p := ⟨gb477, 1, none⟩) (Kd.R_far (p := ⟨gb477, 0, none⟩) (Kd.R_mono HO_12.out (fun k_ hk => (⟨hk, hk.2⟩ : _ ∧ k_ ≠ gb477))) (fun _ hk => hk.2) (.int .i64 ((rd_T34 t473 x28_1).f0))) (fun _ hk => hk.2) (.int .i64 ((rd_T34 t473 x28_1).f1))) (fun _ hk => hk.2) (.int .i64 ((rd_T34 t473 x28_1).f2))) (fun _ hk => hk.2) (.int .i64 ((rd_T34 t473 x28_1).f3.f0))) (fun _ hk => hk.2) (.int .i64 ((rd_T34 t473 x28_1).f3.f1))) (fun _ hk => hk.2) (.int .i64 ((rd_T34 t473 x28_1).f3.f2))) (fun _ hk => hk.2) (.int .i64 ((rd_T34 t473 x28_1).f3.f3))) (fun _ hk => hk.2) (.int .i64 1)) (fun _ hk => hk.2) (.int .i64 0)) (fun _ hk => hk.2) (.int .i64 0)) (fun _ hk => hk.2) (.int .i64 0)) (fun _ hk => hk.2) (.int .i64 0)) (fun _ hk => ⟨hk.1.1.1, ⟨hk.1.1.2.1, ⟨hk.1.1.2.2, hk.1.2⟩⟩⟩)⟩, ⟨by (with_reducible repeat first | apply Kd.R_alloc | apply Kd.R_drewN | apply Kd.R_drew); exact Kd.R_mono (Kd.R_far (p := ⟨gb477, 6, none⟩) (Kd.R_far (p := ⟨gb477, 5, none⟩) (Kd.R_far (p := ⟨gb477, 4, none⟩) (Kd.R_far (p := ⟨gb477, 3, none⟩) (Kd.R_far (p := ⟨gb477, 2, none⟩) (Kd.R_far (p := ⟨gb477, 6, none⟩) (Kd.R_far (p := ⟨gb477, 5, none⟩) (Kd.R_far (p := ⟨gb477, 4, none⟩) (Kd.R_far (p := ⟨gb477, 3, none⟩) (Kd.R_far (p := ⟨gb477, 2, none⟩) (Kd.R_far (p := ⟨gb477, 1, none⟩) (Kd.R_far (p := ⟨gb477, 0, none⟩) (Kd.R_mono HO_13.out (fun k_ hk => (⟨hk, hk.2⟩ : _ ∧ k_ ≠ gb477))) (fun _ hk => hk.2) (.int .i64 ((rd_T34 t473 x28_1).f0))) (fun _ hk => hk.2) (.int .i64 ((rd_T34 t473 x28_1).f1))) (fun _ hk => hk.2) (.int .i64 ((rd_T34 t473 x28_1).f2))) (fun _ hk => hk.2) (.int .i64 ((rd_T34 t473 x28_1).f3.f0))) (fun _ hk => hk.2) (.int .i64 ((rd_T34 t473 x28_1).f3.f1))) (fun _ hk => hk.2) (.int .i64 ((rd_T34 t473 x28_1).f3.f2))) (fun _ hk => hk.2) (.int .i64 ((rd_T34 t473 x28_1).f3.f3))) (fun _ hk => hk.2) (.int .i64 1)) (fun _ hk => hk.2) (.int .i64 0)) (fun _ hk => hk.2) (.int .i64 0)) (fun _ hk => hk.2) (.int .i64 0)) (fun _ hk => hk.2) (.int .i64 0)) (fun _ hk => ⟨hk.1.1.1, ⟨hk.1.1.2.1, ⟨hk.1.1.2.2, hk.1.2⟩⟩⟩)⟩, ⟨by (with_reducible repeat first | apply Kd.R_alloc | apply Kd.R_drewN | apply Kd.R_drew); exact Kd.R_mono (Kd.R_far (p := ⟨gb477, 6, none⟩) (Kd.R_far (p := ⟨gb477, 5, none⟩) (Kd.R_far (p := ⟨gb477, 4, none⟩) (Kd.R_far (p := ⟨gb477, 3, none⟩) (Kd.R_far (p := ⟨gb477, 2, none⟩) (Kd.R_far (p := ⟨gb477, 6, none⟩) (Kd.R_far (p := ⟨gb477, 5, none⟩) (Kd.R_far (p := ⟨gb477, 4, none⟩) (Kd.R_far (p := ⟨gb477, 3, none⟩) (Kd.R_far (p := ⟨gb477, 2, none⟩) (Kd.R_far (p := ⟨gb477, 1, none⟩) (Kd.R_far (p := ⟨gb477, 0, none⟩) (Kd.R_mono HO_26.out (fun k_ hk => (⟨hk, hk.2⟩ : _ ∧ k_ ≠ gb477))) (fun _ hk => hk.2) (.int .i64 ((rd_T34 t473 x28_1).f0))) (fun _ hk => hk.2) (.int .i64 ((rd_T34 t473 x28_1).f1))) (fun _ hk => hk.2) (.int .i64 ((rd_T34 t473 x28_1).f2))) (fun _ hk => hk.2) (.int .i64 ((rd_T34 t473 x28_1).f3.f0))) (fun _ hk => hk.2) (.int .i64 ((rd_T34 t473 x28_1).f3.f1))) (fun _ hk => hk.2) (.int .i64 ((rd_T34 t473 x28_1).f3.f2))) (fun _ hk => hk.2) (.int .i64 ((rd_T34 t473 x28_1).f3.f3))) (fun _ hk => hk.2) (.int .i64 1)) (fun _ hk => hk.2) (.int .i64 0)) (fun _ hk => hk.2) (.int .i64 0)) (fun _ hk => hk.2) (.int .i64 0)) (fun _ hk => hk.2) (.int .i64 0)) (fun _ hk => ⟨hk.1.1.1, ⟨hk.1.1.2, hk.1.2⟩⟩)⟩, ⟨by (with_reducible repeat first | refine blk_drewN ?_ _ | refine blk_drew ?_ | refine blk_alloc ?_ _); refine blk_put (cs := #[.int .i64 ((rd_T34 t473 x28_1).f0), .int .i64 ((rd_T34 t473 x28_1).f1), .int .i64 1, .int .i64 0, .int .i64 0, .int .i64 0, .int .i64 ((rd_T34 t473 x28_1).f3.f3)]) ?_ 6 _ rfl; (with_reducible repeat first | refine blk_drewN ?_ _ | refine blk_drew ?_ | refine blk_alloc ?_ _); refine blk_put (cs := #[.int .i64 ((rd_T34 t473 x28_1).f0), .int .i64 ((rd_T34 t473 x28_1).f1), .int .i64 1, .int .i64 0, .int .i64 0, .int .i64 ((rd_T34 t473 x28_1).f3.f2), .int .i64 ((rd_T34 t473 x28_1).f3.f3)]) ?_ 5 _ rfl; (with_reducible repeat first | refine blk_drewN ?_ _ | refine blk_drew ?_ | refine blk_alloc ?_ _); refine blk_put (cs := #[.int .i64 ((rd_T34 t473 x28_1).f0), .int .i64 ((rd_T34 t473 x28_1).f1), .int .i64 1, .int .i64 0, .int .i64 ((rd_T34 t473 x28_1).f3.f1), .int .i64 ((rd_T34 t473 x28_1).f3.f2), .int .i64 ((rd_T34 t473 x28_1).f3.f3)]) ?_ 4 _ rfl; (with_reducible repeat first | refine blk_drewN ?_ _ | refine blk_drew ?_ | refine blk_alloc ?_ _); refine blk_put (cs := #[.int .i64 ((rd_T34 t473 x28_1).f0), .int .i64 ((rd_T34 t473 x28_1).f1), .int .i64 1, .int .i64 ((rd_T34 t473 x28_1).f3.f0), .int .i64 ((rd_T34 t473 x28_1).f3.f1), .int .i64 ((rd_T34 t473 x28_1).f3.f2), .int .i64 ((rd_T34 t473 x28_1).f3.f3)]) ?_ 3 _ rfl; (with_reducible repeat first | refine blk_drewN ?_ _ | refine blk_drew ?_ | refine blk_alloc ?_ _); refine blk_put (cs := #[.int .i64 ((rd_T34 t473 x28_1).f0), .int .i64 ((rd_T34 t473 x28_1).f1), .int .i64 ((rd_T34 t473 x28_1).f2), .int .i64 ((rd_T34 t473 x28_1).f3.f0), .int .i64 ((rd_T34 t473 x28_1).f3.f1), .int .i64 ((rd_T34 t473 x28_1).f3.f2), .int .i64 ((rd_T34 t473 x28_1).f3.f3)]) ?_ 2 _ rfl; (with_reducible repeat first | refine blk_drewN ?_ _ | refine blk_drew ?_ | refine blk_alloc ?_ _); refine blk_put (cs := #[.int .i64 ((rd_T34 t473 x28_1).f0), .int .i64 ((rd_T34 t473 x28_1).f1), .int .i64 ((rd_T34 t473 x28_1).f2), .int .i64 ((rd_T34 t473 x28_1).f3.f0), .int .i64 ((rd_T34 t473 x28_1).f3.f1), .int .i64 ((rd_T34 t473 x28_1).f3.f2), .int .i64 0]) ?_ 6 _ rfl; (with_reducible repeat first | refine blk_drewN ?_ _ | refine blk_drew ?_ | refine blk_alloc ?_ _); refine blk_put (cs := #[.int .i64 ((rd_T34 t473 x28_1).f0), .int .i64 ((rd_T34 t473 x28_1).f1), .int .i64 ((rd_T34 t473 x28_1).f2), .int .i64 ((rd_T34 t473 x28_1).f3.f0), .int .i64 ((rd_T34 t473 x28_1).f3.f1), .int .i64 0, .int .i64 0]) ?_ 5 _ rfl; (with_reducible repeat first | refine blk_drewN ?_ _ | refine blk_drew ?_ | refine blk_alloc ?_ _); refine blk_put (cs := #[.int .i64 ((rd_T34 t473 x28_1).f0), .int .i64 ((rd_T34 t473 x28_1).f1), .int .i64 ((rd_T34 t473 x28_1).f2), .int .i64 ((rd_T34 t473 x28_1).f3.f0), .int .i64 0, .int .i64 0, .int .i64 0]) ?_ 4 _ rfl; (with_reducible repeat first | refine blk_drewN ?_ _ | refine blk_drew ?_ | refine blk_alloc ?_ _); refine blk_put (cs := #[.int .i64 ((rd_T34 t473 x28_1).f0), .int .i64 ((rd_T34 t473 x28_1).f1), .int .i64 ((rd_T34 t473 x28_1).f2), .int .i64 0, .int .i64 0, .int .i64 0, .int .i64 0]) ?_ 3 _ rfl; (with_reducible repeat first | refine blk_drewN ?_ _ | refine blk_drew ?_ | refine blk_alloc ?_ _); refine blk_put (cs := #[.int .i64 ((rd_T34 t473 x28_1).f0), .int .i64 ((rd_T34 t473 x28_1).f1), .int .i64 0, .int .i64 0, .int .i64 0, .int .i64 0, .int .i64 0]) ?_ 2 _ rfl; (with_reducible repeat first | refine blk_drewN ?_ _ | refine blk_drew ?_ | refine blk_alloc ?_ _); refine blk_put (cs := #[.int .i64 ((rd_T34 t473 x28_1).f0), .int .i64 0, .int .i64 0, .int .i64 0, .int .i64 0, .int .i64 0, .int .i64 0]) ?_ 1 _ rfl; (with_reducible repeat first | refine blk_drewN ?_ _ | refine blk_drew ?_ | refine blk_alloc ?_ _); refine blk_put (cs := #[.int .i64 0, .int .i64 0, .int .i64 0, .int .i64 0, .int .i64 0, .int .i64 0, .int .i64 0]) ?_ 0 _ rfl; (with_reducible repeat first | refine blk_drewN ?_ _ | refine blk_drew ?_ | refine blk_alloc ?_ _); exact BK477.out⟩, ⟨by repeat (first | (with_reducible first | exact HB.out | apply below_alloc | apply pw_below_drewN | apply below_drew1 | refine below_set ?_ GE477.out) | exact HB.out)⟩⟩
       ·rw [if_neg c14] at H
        have c14b0 : (((rd_T34 t473 x28_1).f2) == 2) = false := beq_eq_false_iff_ne.mpr c14
        have c14b1 : (((rd_T34 t473 x28_1).f2) != 2) = true := bne_iff_ne.mpr c14
        (first | rw [c14b0] | (simp only [i64_w, i32_w]; rw [c14b0]) | skip)
        have H' := Aside0.mk H
        clear H
        go_wp2
        go_meet
        case rel => exact ⟨_, ((rd_T34 t473 x28_1).f2), ((rd_T34 t473 x28_1).f3.f0), ((rd_T34 t473 x28_1).f3.f1), ((rd_T34 t473 x28_1).f3.f2), ((rd_T34 t473 x28_1).f3.f3), H', ⟨by have := HK1.out; first | omega | exact Nat.le_refl _⟩, ⟨by (with_reducible repeat first | apply Kd.R_alloc | apply Kd.R_drewN | apply Kd.R_drew); exact Kd.R_mono (Kd.R_far (p := ⟨gb477, 6, none⟩) (Kd.R_far (p := ⟨gb477, 5, none⟩) (Kd.R_far (p := ⟨gb477, 4, none⟩) (Kd.R_far (p := ⟨gb477, 3, none⟩) (Kd.R_far (p := ⟨gb477, 2, none⟩) (Kd.R_far (p := ⟨gb477, 1, none⟩) (Kd.R_far (p := ⟨gb477, 0, none⟩) (Kd.R_mono HO_9.out (fun k_ hk => (⟨hk, hk.2⟩ : _ ∧ k_ ≠ gb477))) (fun _ hk => hk.2) (.int .i64 ((rd_T34 t473 x28_1).f0))) (fun _ hk => hk.2) (.int .i64 ((rd_T34 t473 x28_1).f1))) (fun _ hk => hk.2) (.int .i64 ((rd_T34 t473 x28_1).f2))) (fun _ hk => hk.2) (.int .i64 ((rd_T34 t473 x28_1).f3.f0))) (fun _ hk => hk.2) (.int .i64 ((rd_T34 t473 x28_1).f3.f1))) (fun _ hk => hk.2) (.int .i64 ((rd_T34 t473 x28_1).f3.f2))) (fun _ hk => hk.2) (.int .i64 ((rd_T34 t473 x28_1).f3.f3))) (fun _ hk => ⟨hk.1.1.1, ⟨hk.1.1.2, hk.1.2⟩⟩)⟩, ⟨by (with_reducible repeat first | apply Kd.R_alloc | apply Kd.R_drewN | apply Kd.R_drew); exact Kd.R_mono (Kd.R_far (p := ⟨gb477, 6, none⟩) (Kd.R_far (p := ⟨gb477, 5, none⟩) (Kd.R_far (p := ⟨gb477, 4, none⟩) (Kd.R_far (p := ⟨gb477, 3, none⟩) (Kd.R_far (p := ⟨gb477, 2, none⟩) (Kd.R_far (p := ⟨gb477, 1, none⟩) (Kd.R_far (p := ⟨gb477, 0, none⟩) (Kd.R_mono HO_12.out (fun k_ hk => (⟨hk, hk.2⟩ : _ ∧ k_ ≠ gb477))) (fun _ hk => hk.2) (.int .i64 ((rd_T34 t473 x28_1).f0))) (fun _ hk => hk.2) (.int .i64 ((rd_T34 t473 x28_1).f1))) (fun _ hk => hk.2) (.int .i64 ((rd_T34 t473 x28_1).f2))) (fun _ hk => hk.2) (.int .i64 ((rd_T34 t473 x28_1).f3.f0))) (fun _ hk => hk.2) (.int .i64 ((rd_T34 t473 x28_1).f3.f1))) (fun _ hk => hk.2) (.int .i64 ((rd_T34 t473 x28_1).f3.f2))) (fun _ hk => hk.2) (.int .i64 ((rd_T34 t473 x28_1).f3.f3))) (fun _ hk => ⟨hk.1.1.1, ⟨hk.1.1.2.1, ⟨hk.1.1.2.2, hk.1.2⟩⟩⟩)⟩, ⟨by (with_reducible repeat first | apply Kd.R_alloc | apply Kd.R_drewN | apply Kd.R_drew); exact Kd.R_mono (Kd.R_far (p := ⟨gb477, 6, none⟩) (Kd.R_far (p := ⟨gb477, 5, none⟩) (Kd.R_far (p := ⟨gb477, 4, none⟩) (Kd.R_far (p := ⟨gb477, 3, none⟩) (Kd.R_far (p := ⟨gb477, 2, none⟩) (Kd.R_far (p := ⟨gb477, 1, none⟩) (Kd.R_far (p := ⟨gb477, 0, none⟩) (Kd.R_mono HO_13.out (fun k_ hk => (⟨hk, hk.2⟩ : _ ∧ k_ ≠ gb477))) (fun _ hk => hk.2) (.int .i64 ((rd_T34 t473 x28_1).f0))) (fun _ hk => hk.2) (.int .i64 ((rd_T34 t473 x28_1).f1))) (fun _ hk => hk.2) (.int .i64 ((rd_T34 t473 x28_1).f2))) (fun _ hk => hk.2) (.int .i64 ((rd_T34 t473 x28_1).f3.f0))) (fun _ hk => hk.2) (.int .i64 ((rd_T34 t473 x28_1).f3.f1))) (fun _ hk => hk.2) (.int .i64 ((rd_T34 t473 x28_1).f3.f2))) (fun _ hk => hk.2) (.int .i64 ((rd_T34 t473 x28_1).f3.f3))) (fun _ hk => ⟨hk.1.1.1, ⟨hk.1.1.2.1, ⟨hk.1.1.2.2, hk.1.2⟩⟩⟩)⟩, ⟨by (with_reducible repeat first | apply Kd.R_alloc | apply Kd.R_drewN | apply Kd.R_drew); exact Kd.R_mono (Kd.R_far (p := ⟨gb477, 6, none⟩) (Kd.R_far (p := ⟨gb477, 5, none⟩) (Kd.R_far (p := ⟨gb477, 4, none⟩) (Kd.R_far (p := ⟨gb477, 3, none⟩) (Kd.R_far (p := ⟨gb477, 2, none⟩) (Kd.R_far (p := ⟨gb477, 1, none⟩) (Kd.R_far (p := ⟨gb477, 0, none⟩) (Kd.R_mono HO_26.out (fun k_ hk => (⟨hk, hk.2⟩ : _ ∧ k_ ≠ gb477))) (fun _ hk => hk.2) (.int .i64 ((rd_T34 t473 x28_1).f0))) (fun _ hk => hk.2) (.int .i64 ((rd_T34 t473 x28_1).f1))) (fun _ hk => hk.2) (.int .i64 ((rd_T34 t473 x28_1).f2))) (fun _ hk => hk.2) (.int .i64 ((rd_T34 t473 x28_1).f3.f0))) (fun _ hk => hk.2) (.int .i64 ((rd_T34 t473 x28_1).f3.f1))) (fun _ hk => hk.2) (.int .i64 ((rd_T34 t473 x28_1).f3.f2))) (fun _ hk => hk.2) (.int .i64 ((rd_T34 t473 x28_1).f3.f3))) (fun _ hk => ⟨hk.1.1.1, ⟨hk.1.1.2, hk.1.2⟩⟩)⟩, ⟨by (with_reducible repeat first | refine blk_drewN ?_ _ | refine blk_drew ?_ | refine blk_alloc ?_ _); refine blk_put (cs := #[.int .i64 ((rd_T34 t473 x28_1).f0), .int .i64 ((rd_T34 t473 x28_1).f1), .int .i64 ((rd_T34 t473 x28_1).f2), .int .i64 ((rd_T34 t473 x28_1).f3.f0), .int .i64 ((rd_T34 t473 x28_1).f3.f1), .int .i64 ((rd_T34 t473 x28_1).f3.f2), .int .i64 0]) ?_ 6 _ rfl; (with_reducible repeat first | refine blk_drewN ?_ _ | refine blk_drew ?_ | refine blk_alloc ?_ _); refine blk_put (cs := #[.int .i64 ((rd_T34 t473 x28_1).f0), .int .i64 ((rd_T34 t473 x28_1).f1), .int .i64 ((rd_T34 t473 x28_1).f2), .int .i64 ((rd_T34 t473 x28_1).f3.f0), .int .i64 ((rd_T34 t473 x28_1).f3.f1), .int .i64 0, .int .i64 0]) ?_ 5 _ rfl; (with_reducible repeat first | refine blk_drewN ?_ _ | refine blk_drew ?_ | refine blk_alloc ?_ _); refine blk_put (cs := #[.int .i64 ((rd_T34 t473 x28_1).f0), .int .i64 ((rd_T34 t473 x28_1).f1), .int .i64 ((rd_T34 t473 x28_1).f2), .int .i64 ((rd_T34 t473 x28_1).f3.f0), .int .i64 0, .int .i64 0, .int .i64 0]) ?_ 4 _ rfl; (with_reducible repeat first | refine blk_drewN ?_ _ | refine blk_drew ?_ | refine blk_alloc ?_ _); refine blk_put (cs := #[.int .i64 ((rd_T34 t473 x28_1).f0), .int .i64 ((rd_T34 t473 x28_1).f1), .int .i64 ((rd_T34 t473 x28_1).f2), .int .i64 0, .int .i64 0, .int .i64 0, .int .i64 0]) ?_ 3 _ rfl; (with_reducible repeat first | refine blk_drewN ?_ _ | refine blk_drew ?_ | refine blk_alloc ?_ _); refine blk_put (cs := #[.int .i64 ((rd_T34 t473 x28_1).f0), .int .i64 ((rd_T34 t473 x28_1).f1), .int .i64 0, .int .i64 0, .int .i64 0, .int .i64 0, .int .i64 0]) ?_ 2 _ rfl; (with_reducible repeat first | refine blk_drewN ?_ _ | refine blk_drew ?_ | refine blk_alloc ?_ _); refine blk_put (cs := #[.int .i64 ((rd_T34 t473 x28_1).f0), .int .i64 0, .int .i64 0, .int .i64 0, .int .i64 0, .int .i64 0, .int .i64 0]) ?_ 1 _ rfl; (with_reducible repeat first | refine blk_drewN ?_ _ | refine blk_drew ?_ | refine blk_alloc ?_ _); refine blk_put (cs := #[.int .i64 0, .int .i64 0, .int .i64 0, .int .i64 0, .int .i64 0, .int .i64 0, .int .i64 0]) ?_ 0 _ rfl; (with_reducible repeat first | refine blk_drewN ?_ _ | refine blk_drew ?_ | refine blk_alloc ?_ _); exact BK477.out⟩, ⟨by repeat (first | (with_reducible first | exact HB.out | apply below_alloc | apply pw_below_drewN | apply below_drew1 | refine below_set ?_ GE477.out) | exact HB.out)⟩⟩
      case rest =>
       clear HC11
       try clear c1
       try clear p2
       try clear p4
       try clear q4
       try clear hx4
       try clear c8
       try clear c8b0
       try clear c9
       try clear c9b0
       try clear c10
       try clear c10b0
       try clear c14
       try clear c14b0
       try clear c14b1
       try clear hcz13_0
       try clear hcz13_1
       try clear hcz13_2
       try clear hcz13_3
       try clear hcz13_4
       try clear hcz13_5
       try clear hcz13_6
       try clear hcz15_0
       try clear hcz15_1
       try clear hcz15_2
       try clear hcz15_3
       try clear hcz15_4
       try clear hcz15_5
       try clear hcz15_6
       try clear hfz13_0
       try clear hfz13_1
       try clear hfz13_2
       try clear hfz13_3
       try clear hfz13_4
       try clear hfz13_5
       try clear hfz13_6
       try clear hfz15_0
       try clear hfz15_1
       try clear hfz15_2
       try clear hfz15_3
       try clear hfz15_4
       try clear hfz15_5
       try clear hfz15_6
       try clear hx476_0
       try clear hx476_1
       try clear hx476_2
       try clear hx476_3
       try clear hx476_4
       try clear hx476_5
       try clear hx476_6
       try clear p2
       try clear p476
       try clear q476
       obtain ⟨kq, x478002_10, x478003_10, x478004_10, x478005_10, x478006_10, HA, HJ10, HO_9, HO_12, HO_13, HO_26, BK477, HB⟩ := hcut
       cases kq with
       | zero => exact absurd HA.out (by simp [mutoscopelaw5_KeyShifts.j1])
       | succ kj10 =>
        have H := HA.out
        clear HA
        simp only [mutoscopelaw5_KeyShifts.j1] at H
        obtain ⟨y480, hy480⟩ : ∃ y_ : List (S34), y_ = (([(⟨wrap64 (((rd_T34 t473 x28_1).f0) + (Go.bits .and .i64 a1 1023)), ((rd_T34 t473 x28_1).f1) / 4, x478002_10, (⟨x478003_10, x478004_10, x478005_10, x478006_10⟩ : S23)⟩ : S34)] : List (S34))) := ⟨_, rfl⟩
        replace H : (if x12_1.length + y480.length < 2513169434916 then ((some (([(⟨((rd_T34 t473 x28_1).f0), wrap64 ((((rd_T34 t473 x28_1).f1) / 4) + (Int.tmod a2 65536)), x478002_10, (⟨x478003_10, x478004_10, x478005_10, x478006_10⟩ : S23)⟩ : S34)] : List (S34)) : List (S34))).bind fun y486 => (if x13_1.length + y486.length < 2513169434916 then (mutoscopelaw5_KeyShifts.l0 kj10 a3 t473 (Go.bits .and .i64 a1 1023) (Int.tmod a2 65536) (x12_1 ++ y480) (x13_1 ++ y486) t473 (t473.length : Int) (wrap64 (x28_1 + 1))) else (none))) else (none)) = some r := by first | (rw [hy480]; with_reducible exact H) | (have H2_ := (Option.bind_some _ _).symm.trans H; rw [hy480]; with_reducible exact H2_) | (have H2_ := (Option.bind_some _ _).symm.trans H; with_reducible exact H2_) | with_reducible exact H | (rw [hy480]; exact H) | exact H
        have Ny480 := Aside0.mk hy480
        clear hy480
        by_cases c16 : x12_1.length + y480.length < 2513169434916
        ·rw [if_pos c16] at H
         have LMc16 := Aside0.mk c16
         clear c16
         obtain ⟨y483, hy483⟩ : ∃ y_ : List (S34), y_ = (x12_1 ++ y480) := ⟨_, rfl⟩
         replace H : ((some (([(⟨((rd_T34 t473 x28_1).f0), wrap64 ((((rd_T34 t473 x28_1).f1) / 4) + (Int.tmod a2 65536)), x478002_10, (⟨x478003_10, x478004_10, x478005_10, x478006_10⟩ : S23)⟩ : S34)] : List (S34)) : List (S34))).bind fun y486 => (if x13_1.length + y486.length < 2513169434916 then (mutoscopelaw5_KeyShifts.l0 kj10 a3 t473 (Go.bits .and .i64 a1 1023) (Int.tmod a2 65536) y483 (x13_1 ++ y486) t473 (t473.length : Int) (wrap64 (x28_1 + 1))) else (none))) = some r := by first | (rw [hy483]; with_reducible exact H) | (have H2_ := (Option.bind_some _ _).symm.trans H; rw [hy483]; with_reducible exact H2_) | (have H2_ := (Option.bind_some _ _).symm.trans H; with_reducible exact H2_) | with_reducible exact H | (rw [hy483]; exact H) | exact H
         have Ny483 := Aside0.mk hy483
         clear hy483
         obtain ⟨y486, hy486⟩ : ∃ y_ : List (S34), y_ = (([(⟨((rd_T34 t473 x28_1).f0), wrap64 ((((rd_T34 t473 x28_1).f1) / 4) + (Int.tmod a2 65536)), x478002_10, (⟨x478003_10, x478004_10, x478005_10, x478006_10⟩ : S23)⟩ : S34)] : List (S34))) := ⟨_, rfl⟩
         replace H : (if x13_1.length + y486.length < 2513169434916 then (mutoscopelaw5_KeyShifts.l0 kj10 a3 t473 (Go.bits .and .i64 a1 1023) (Int.tmod a2 65536) y483 (x13_1 ++ y486) t473 (t473.length : Int) (wrap64 (x28_1 + 1))) else (none)) = some r := by first | (rw [hy486]; with_reducible exact H) | (have H2_ := (Option.bind_some _ _).symm.trans H; rw [hy486]; with_reducible exact H2_) | (have H2_ := (Option.bind_some _ _).symm.trans H; with_reducible exact H2_) | with_reducible exact H | (rw [hy486]; exact H) | exact H
         have Ny486 := Aside0.mk hy486
         clear hy486
         by_cases c17 : x13_1.length + y486.length < 2513169434916
         ·rw [if_pos c17] at H
          have LMc17 := Aside0.mk c17
          clear c17
          obtain ⟨y489, hy489⟩ : ∃ y_ : List (S34), y_ = (x13_1 ++ y486) := ⟨_, rfl⟩
          replace H : (mutoscopelaw5_KeyShifts.l0 kj10 a3 t473 (Go.bits .and .i64 a1 1023) (Int.tmod a2 65536) y483 y489 t473 (t473.length : Int) (wrap64 (x28_1 + 1))) = some r := by first | (rw [hy489]; with_reducible exact H) | (have H2_ := (Option.bind_some _ _).symm.trans H; rw [hy489]; with_reducible exact H2_) | (have H2_ := (Option.bind_some _ _).symm.trans H; with_reducible exact H2_) | with_reducible exact H | (rw [hy489]; exact H) | exact H
          have Ny489 := Aside0.mk hy489
          clear hy489
          have H' := Aside0.mk H
          clear H
          have hcz18_0 : wc.cell? ⟨gb477, 0, none⟩ = some (.int .i64 ((rd_T34 t473 x28_1).f0)) := (blk_cell BK477.out 0).trans rfl
          have hcz18_1 : wc.cell? ⟨gb477, 1, none⟩ = some (.int .i64 ((rd_T34 t473 x28_1).f1)) := (blk_cell BK477.out 1).trans rfl
          have hcz18_2 : wc.cell? ⟨gb477, 2, none⟩ = some (.int .i64 x478002_10) := (blk_cell BK477.out 2).trans rfl
          have hcz18_3 : wc.cell? ⟨gb477, 3, none⟩ = some (.int .i64 x478003_10) := (blk_cell BK477.out 3).trans rfl
          have hcz18_4 : wc.cell? ⟨gb477, 4, none⟩ = some (.int .i64 x478004_10) := (blk_cell BK477.out 4).trans rfl
          have hcz18_5 : wc.cell? ⟨gb477, 5, none⟩ = some (.int .i64 x478005_10) := (blk_cell BK477.out 5).trans rfl
          have hcz18_6 : wc.cell? ⟨gb477, 6, none⟩ = some (.int .i64 x478006_10) := (blk_cell BK477.out 6).trans rfl
          have hfz18_0 := blk_frozen BK477.out 0
          have hfz18_1 := blk_frozen BK477.out 1
          have hfz18_2 := blk_frozen BK477.out 2
          have hfz18_3 := blk_frozen BK477.out 3
          have hfz18_4 := blk_frozen BK477.out 4
          have hfz18_5 := blk_frozen BK477.out 5
          have hfz18_6 := blk_frozen BK477.out 6
          try go_wp2
          have n0_ : Aside0 (Kd.R k34 34 (wc.setCell ⟨gb477, 1, none⟩ (.int .i64 (((rd_T34 t473 x28_1).f1) / 4))) w.heap.size (fun k_ => some k_ ≠ (u12 : Value).ownBlock ∧ some k_ ≠ (u13 : Value).ownBlock ∧ k_ ≠ gb477) (.slice (some ad476) t473.length co7) t473) := ⟨by (with_reducible repeat first | apply Kd.R_alloc | apply Kd.R_drewN | apply Kd.R_drew); exact Kd.R_mono (Kd.R_far (p := ⟨gb477, 1, none⟩) (Kd.R_mono HO_9.out (fun k_ hk => (⟨hk, hk.2.2⟩ : _ ∧ k_ ≠ gb477))) (fun _ hk => hk.2) (.int .i64 (((rd_T34 t473 x28_1).f1) / 4))) (fun _ hk => ⟨hk.1.1, ⟨hk.1.2.1, hk.1.2.2⟩⟩)⟩
          have n1_ : Aside0 (Kd.R k34 34 (wc.setCell ⟨gb477, 1, none⟩ (.int .i64 (((rd_T34 t473 x28_1).f1) / 4))) w.heap.size (fun k_ => some k_ ≠ (.slice (some ad476) t473.length co7 : Value).ownBlock ∧ some k_ ≠ (u13 : Value).ownBlock ∧ some k_ ≠ (.slice (some ad476) t473.length co7 : Value).ownBlock ∧ k_ ≠ gb477) u12 x12_1) := ⟨by (with_reducible repeat first | apply Kd.R_alloc | apply Kd.R_drewN | apply Kd.R_drew); exact Kd.R_mono (Kd.R_far (p := ⟨gb477, 1, none⟩) (Kd.R_mono HO_12.out (fun k_ hk => (⟨hk, hk.2.2.2⟩ : _ ∧ k_ ≠ gb477))) (fun _ hk => hk.2) (.int .i64 (((rd_T34 t473 x28_1).f1) / 4))) (fun _ hk => ⟨hk.1.1, ⟨hk.1.2.1, ⟨hk.1.2.2.1, hk.1.2.2.2⟩⟩⟩)⟩
          have n2_ : Aside0 (Kd.R k34 34 (wc.setCell ⟨gb477, 1, none⟩ (.int .i64 (((rd_T34 t473 x28_1).f1) / 4))) w.heap.size (fun k_ => some k_ ≠ (.slice (some ad476) t473.length co7 : Value).ownBlock ∧ some k_ ≠ (u12 : Value).ownBlock ∧ some k_ ≠ (.slice (some ad476) t473.length co7 : Value).ownBlock ∧ k_ ≠ gb477) u13 x13_1) := ⟨by (with_reducible repeat first | apply Kd.R_alloc | apply Kd.R_drewN | apply Kd.R_drew); exact Kd.R_mono (Kd.R_far (p := ⟨gb477, 1, none⟩) (Kd.R_mono HO_13.out (fun k_ hk => (⟨hk, hk.2.2.2⟩ : _ ∧ k_ ≠ gb477))) (fun _ hk => hk.2) (.int .i64 (((rd_T34 t473 x28_1).f1) / 4))) (fun _ hk => ⟨hk.1.1, ⟨hk.1.2.1, ⟨hk.1.2.2.1, hk.1.2.2.2⟩⟩⟩)⟩
          have n3_ : Aside0 (Kd.R k34 34 (wc.setCell ⟨gb477, 1, none⟩ (.int .i64 (((rd_T34 t473 x28_1).f1) / 4))) w.heap.size (fun k_ => some k_ ≠ (u12 : Value).ownBlock ∧ some k_ ≠ (u13 : Value).ownBlock ∧ k_ ≠ gb477) (.slice (some ad476) t473.length co7) t473) := ⟨by (with_reducible repeat first | apply Kd.R_alloc | apply Kd.R_drewN | apply Kd.R_drew); exact Kd.R_mono (Kd.R_far (p := ⟨gb477, 1, none⟩) (Kd.R_mono HO_26.out (fun k_ hk => (⟨hk, hk.2.2⟩ : _ ∧ k_ ≠ gb477))) (fun _ hk => hk.2) (.int .i64 (((rd_T34 t473 x28_1).f1) / 4))) (fun _ hk => ⟨hk.1.1, ⟨hk.1.2.1, hk.1.2.2⟩⟩)⟩
          have n4_ : Aside0 ((wc.setCell ⟨gb477, 1, none⟩ (.int .i64 (((rd_T34 t473 x28_1).f1) / 4))).heap[gb477]? = some (.cells #[.int .i64 ((rd_T34 t473 x28_1).f0), .int .i64 (((rd_T34 t473 x28_1).f1) / 4), .int .i64 x478002_10, .int .i64 x478003_10, .int .i64 x478004_10, .int .i64 x478005_10, .int .i64 x478006_10] 34 (0, 0))) := ⟨by (with_reducible repeat first | refine blk_drewN ?_ _ | refine blk_drew ?_ | refine blk_alloc ?_ _); refine blk_put (cs := #[.int .i64 ((rd_T34 t473 x28_1).f0), .int .i64 ((rd_T34 t473 x28_1).f1), .int .i64 x478002_10, .int .i64 x478003_10, .int .i64 x478004_10, .int .i64 x478005_10, .int .i64 x478006_10]) ?_ 1 _ rfl; (with_reducible repeat first | refine blk_drewN ?_ _ | refine blk_drew ?_ | refine blk_alloc ?_ _); exact BK477.out⟩
          have n5_ : Aside0 (Below w.heap.size w (wc.setCell ⟨gb477, 1, none⟩ (.int .i64 (((rd_T34 t473 x28_1).f1) / 4)))) := ⟨by repeat (first | (with_reducible first | exact HB.out | apply below_alloc | apply pw_below_drewN | apply below_drew1 | refine below_set ?_ GE477.out) | exact HB.out)⟩
          (try clear HO_9)
          (try clear HO_12)
          (try clear HO_13)
          (try clear HO_26)
          (try clear BK477)
          (try clear HB)
          generalize (wc.setCell ⟨gb477, 1, none⟩ (.int .i64 (((rd_T34 t473 x28_1).f1) / 4))) = w19 at n0_ n1_ n2_ n3_ n4_ n5_ ⊢
          have HO_9 := n0_
          have HO_12 := n1_
          have HO_13 := n2_
          have HO_26 := n3_
          have BK477 := n4_
          have HB := n5_
          clear n0_ n1_ n2_ n3_ n4_ n5_
          have n0_ := MS.am (Kd.R_drew HO_9.out)
          have n1_ := MS.am (Kd.R_drew HO_12.out)
          have n2_ := MS.am (Kd.R_drew HO_13.out)
          have n3_ := MS.am (Kd.R_drew HO_26.out)
          have n4_ := MS.am (blk_drew BK477.out)
          have n5_ := MS.am (below_drew1 HB.out)
          clear HO_9
          clear HO_12
          clear HO_13
          clear HO_26
          clear BK477
          clear HB
          have HO_9 := n0_
          have HO_12 := n1_
          have HO_13 := n2_
          have HO_26 := n3_
          have BK477 := n4_
          have HB := n5_
          clear n0_ n1_ n2_ n3_ n4_ n5_
          refine start_ (n := 6) (S := fun w' => w'.cell? ⟨gb477, 0, none⟩ = some (.int .i64 ((rd_T34 t473 x28_1).f0)) ∧ w'.cell? ⟨gb477, 1, none⟩ = some (.int .i64 (((rd_T34 t473 x28_1).f1) / 4)) ∧ w'.cell? ⟨gb477, 2, none⟩ = some (.int .i64 x478002_10) ∧ w'.cell? ⟨gb477, 3, none⟩ = some (.int .i64 x478003_10) ∧ w'.cell? ⟨gb477, 4, none⟩ = some (.int .i64 x478004_10) ∧ w'.cell? ⟨gb477, 5, none⟩ = some (.int .i64 x478005_10) ∧ w'.cell? ⟨gb477, 6, none⟩ = some (.int .i64 x478006_10)) (ds := []) #[false, false, false, false, false, false] (by kernel_rfl) rfl rfl ⟨(blk_cell BK477.out 0).trans rfl, (blk_cell BK477.out 1).trans rfl, (blk_cell BK477.out 2).trans rfl, (blk_cell BK477.out 3).trans rfl, (blk_cell BK477.out 4).trans rfl, (blk_cell BK477.out 5).trans rfl, (blk_cell BK477.out 6).trans rfl⟩ (fun hHeld => ?_)
          generalize w19.drew = w20 at HO_9 HO_12 HO_13 HO_26 BK477 HB hHeld ⊢
          refine take_ (i := 0) (N := some 42) (v := ?_) (a' := ?_) #[true, false, false, false, false, false] rfl rfl (by kernel_rfl) (fun _ _ _ h => h) (Or.inl ⟨by rfl, ?_⟩) hHeld ?_ ?_
          rotate_left
          ·rintro w' ⟨s0, s1, s2, s3, s4, s5, s6⟩
           go_simp
           with_reducible rfl
          rotate_left
          ·simp only [Act.put, List.setIfInBounds_toArray, List.set_cons_zero, List.set_cons_succ, i64_w, i32_w]
           rfl
          refine take_ (i := 1) (N := some 43) (v := ?_) (a' := ?_) #[true, true, false, false, false, false] rfl rfl (by kernel_rfl) (fun _ _ _ h => h) (Or.inl ⟨by rfl, ?_⟩) hHeld ?_ ?_
          rotate_left
          ·rintro w' ⟨s0, s1, s2, s3, s4, s5, s6⟩
           go_simp
           with_reducible rfl
          rotate_left
          ·simp only [Act.put, List.setIfInBounds_toArray, List.set_cons_zero, List.set_cons_succ, i64_w, i32_w]
           rfl
          refine join_ (σ := Nat × Nat) 2 #[true, true, true, true, false, false] (fun s_ => [(16, .pointer (some ⟨s_.1, 0, none⟩)), (17, .pointer (some ⟨s_.2, 0, none⟩))]) (fun s_ w' => (w'.cell? ⟨gb477, 0, none⟩ = some (.int .i64 ((rd_T34 t473 x28_1).f0)) ∧ w'.cell? ⟨gb477, 1, none⟩ = some (.int .i64 (((rd_T34 t473 x28_1).f1) / 4)) ∧ w'.cell? ⟨gb477, 2, none⟩ = some (.int .i64 x478002_10) ∧ w'.cell? ⟨gb477, 3, none⟩ = some (.int .i64 x478003_10) ∧ w'.cell? ⟨gb477, 4, none⟩ = some (.int .i64 x478004_10) ∧ w'.cell? ⟨gb477, 5, none⟩ = some (.int .i64 x478005_10) ∧ w'.cell? ⟨gb477, 6, none⟩ = some (.int .i64 x478006_10)) ∧ (Kd.R k34 34 w' w.heap.size (fun k_ => some k_ ≠ (u13 : Value).ownBlock ∧ some k_ ≠ (.slice (some ad476) t473.length co7 : Value).ownBlock ∧ some k_ ≠ (.slice (some ad476) t473.length co7 : Value).ownBlock ∧ k_ ≠ gb477 ∧ k_ ≠ s_.1 ∧ k_ ≠ s_.2) u12 x12_1) ∧ (Kd.R k34 34 w' w.heap.size (fun k_ => some k_ ≠ (u12 : Value).ownBlock ∧ some k_ ≠ (.slice (some ad476) t473.length co7 : Value).ownBlock ∧ some k_ ≠ (.slice (some ad476) t473.length co7 : Value).ownBlock ∧ k_ ≠ gb477 ∧ k_ ≠ s_.1 ∧ k_ ≠ s_.2) u13 x13_1) ∧ (Kd.R k34 34 w' w.heap.size (fun k_ => some k_ ≠ (u12 : Value).ownBlock ∧ some k_ ≠ (u13 : Value).ownBlock ∧ k_ ≠ gb477 ∧ k_ ≠ s_.1 ∧ k_ ≠ s_.2) (.slice (some ad476) t473.length co7) t473) ∧ (Kd.R k34 34 w' w.heap.size (fun k_ => some k_ ≠ (u12 : Value).ownBlock ∧ some k_ ≠ (u13 : Value).ownBlock ∧ k_ ≠ gb477 ∧ k_ ≠ s_.1 ∧ k_ ≠ s_.2) (.slice (some ad476) t473.length co7) t473) ∧ (w'.heap[gb477]? = some (.cells #[.int .i64 ((rd_T34 t473 x28_1).f0), .int .i64 (((rd_T34 t473 x28_1).f1) / 4), .int .i64 x478002_10, .int .i64 x478003_10, .int .i64 x478004_10, .int .i64 x478005_10, .int .i64 x478006_10] 34 (0, 0))) ∧ (w'.heap[s_.1]? = some (.cells #[.int .i64 0, .int .i64 0, .int .i64 0, .int .i64 0, .int .i64 0, .int .i64 0, .int .i64 0] 34 (0, 0))) ∧ (w'.heap[s_.2]? = some (.cells #[.int .i64 0, .int .i64 0, .int .i64 0, .int .i64 0, .int .i64 0, .int .i64 0, .int .i64 0] 34 (0, 0))) ∧ (w.heap.size ≤ s_.1) ∧ (w.heap.size ≤ s_.1) ∧ (gb477 ≠ s_.1) ∧ (s_.1 ≠ gb477) ∧ (s_.2 ≠ s_.1) ∧ (s_.1 ≠ s_.2) ∧ (w.heap.size ≤ s_.2) ∧ (w.heap.size ≤ s_.2) ∧ (gb477 ≠ s_.2) ∧ (s_.2 ≠ gb477) ∧ (Below w.heap.size w w')) ?_ ?_
          rotate_left
          ·intro hCont
           refine two_ (i := 2) (j := 3) (Ni := some 16) (Nj := some 17) #[true, true, true, false, false, false] #[true, true, false, true, false, false] rfl rfl rfl rfl (by kernel_rfl) (by decide) (by decide) (fun K hK => ?_) (fun K hK => ?_)
           ·skip
            refine box_step ?hg (N := 16) ?hd (cs := #[.int .i64 0, .int .i64 0, .int .i64 0, .int .i64 0, .int .i64 0, .int .i64 0, .int .i64 0]) (t := 34) ?hr ?_; (case hd => rfl); (case hg => rfl); (case hr => first | (go_simp; done) | (go_simp; rfl))
            intro gb478 hg w21 hbox hb
            have n0_ := MS.am (Kd.R_below (Kd.R_elderB (by (with_reducible repeat first | apply Kd.R_alloc | apply Kd.R_drewN | apply Kd.R_drew); exact HO_9.out) gb478 (Nat.le_of_eq hg.symm)) hb)
            have n1_ := MS.am (Kd.R_below (Kd.R_elderB (by (with_reducible repeat first | apply Kd.R_alloc | apply Kd.R_drewN | apply Kd.R_drew); exact HO_12.out) gb478 (Nat.le_of_eq hg.symm)) hb)
            have n2_ := MS.am (Kd.R_below (Kd.R_elderB (by (with_reducible repeat first | apply Kd.R_alloc | apply Kd.R_drewN | apply Kd.R_drew); exact HO_13.out) gb478 (Nat.le_of_eq hg.symm)) hb)
            have n3_ := MS.am (Kd.R_below (Kd.R_elderB (by (with_reducible repeat first | apply Kd.R_alloc | apply Kd.R_drewN | apply Kd.R_drew); exact HO_26.out) gb478 (Nat.le_of_eq hg.symm)) hb)
            have n4_ := MS.am (blk_below (g := gb477) (o := .cells #[.int .i64 ((rd_T34 t473 x28_1).f0), .int .i64 (((rd_T34 t473 x28_1).f1) / 4), .int .i64 x478002_10, .int .i64 x478003_10, .int .i64 x478004_10, .int .i64 x478005_10, .int .i64 x478006_10] 34 (0, 0)) (by (with_reducible repeat first | refine blk_drewN ?_ _ | refine blk_drew ?_ | refine blk_alloc ?_ _); exact BK477.out) hb)
            have n5_ := MS.am (below_step (by repeat (first | (with_reducible first | exact HB.out | apply below_alloc | apply pw_below_drewN | apply below_drew1 | refine below_set ?_ GE477.out) | exact HB.out)) hb)
            have n6_ := MS.am (hbox)
            have n7_ := MS.am ((by rw [hg]; exact (below_size (by repeat (first | (with_reducible first | exact HB.out | apply below_alloc | apply pw_below_drewN | apply below_drew1 | refine below_set ?_ GE477.out) | exact HB.out))) : w.heap.size ≤ gb478))
            have n8_ := MS.am ((by rw [hg]; exact (below_size (by repeat (first | (with_reducible first | exact HB.out | apply below_alloc | apply pw_below_drewN | apply below_drew1 | refine below_set ?_ GE477.out) | exact HB.out))) : w.heap.size ≤ gb478))
            have n9_ := MS.am ((by rw [hg]; exact Nat.ne_of_lt (blk_lt (g := gb477) (o := .cells #[.int .i64 ((rd_T34 t473 x28_1).f0), .int .i64 (((rd_T34 t473 x28_1).f1) / 4), .int .i64 x478002_10, .int .i64 x478003_10, .int .i64 x478004_10, .int .i64 x478005_10, .int .i64 x478006_10] 34 (0, 0)) (by (with_reducible repeat first | refine blk_drewN ?_ _ | refine blk_drew ?_ | refine blk_alloc ?_ _); exact BK477.out)) : gb477 ≠ gb478))
            have n10_ := MS.am ((by rw [hg]; exact Nat.ne_of_gt (blk_lt (g := gb477) (o := .cells #[.int .i64 ((rd_T34 t473 x28_1).f0), .int .i64 (((rd_T34 t473 x28_1).f1) / 4), .int .i64 x478002_10, .int .i64 x478003_10, .int .i64 x478004_10, .int .i64 x478005_10, .int .i64 x478006_10] 34 (0, 0)) (by (with_reducible repeat first | refine blk_drewN ?_ _ | refine blk_drew ?_ | refine blk_alloc ?_ _); exact BK477.out)) : gb478 ≠ gb477))
            clear HO_9
            clear HO_12
            clear HO_13
            clear HO_26
            clear BK477
            clear HB
            have HO_9 := n0_
            have HO_12 := n1_
            have HO_13 := n2_
            have HO_26 := n3_
            have BK477 := n4_
            have HB := n5_
            have BK478 := n6_
            have GW478 := n7_
            have GE478 := n8_
            have NB477_478 := n9_
            have NB478_477 := n10_
            clear n0_ n1_ n2_ n3_ n4_ n5_ n6_ n7_ n8_ n9_ n10_
            clear hb hbox hg
            refine hK.out _ _ ⟨(blk_cell BK477.out 0).trans rfl, (blk_cell BK477.out 1).trans rfl, (blk_cell BK477.out 2).trans rfl, (blk_cell BK477.out 3).trans rfl, (blk_cell BK477.out 4).trans rfl, (blk_cell BK477.out 5).trans rfl, (blk_cell BK477.out 6).trans rfl⟩ (fun hHeld => ?_)
            clear hK K
            refine norm_ (a' := ?_) ?_ ?_
            rotate_left
            ·show Act.put _ (some 16) _ = _
             simp only [Act.put, List.setIfInBounds_toArray, List.set_cons_zero, List.set_cons_succ, i64_w, i32_w]
             rfl
            refine one_ (i := 3) (N := some 17) #[true, true, true, true, false, false] rfl rfl (by kernel_rfl) (by decide) (fun K hK => ?_)
            refine box_step ?hg (N := 17) ?hd (cs := #[.int .i64 0, .int .i64 0, .int .i64 0, .int .i64 0, .int .i64 0, .int .i64 0, .int .i64 0]) (t := 34) ?hr ?_; (case hd => rfl); (case hg => rfl); (case hr => first | (go_simp; done) | (go_simp; rfl))
            intro gb479 hg w22 hbox hb
            have n0_ := MS.am (Kd.R_below (Kd.R_elderB (by (with_reducible repeat first | apply Kd.R_alloc | apply Kd.R_drewN | apply Kd.R_drew); exact HO_9.out) gb479 (Nat.le_of_eq hg.symm)) hb)
            have n1_ := MS.am (Kd.R_below (Kd.R_elderB (by (with_reducible repeat first | apply Kd.R_alloc | apply Kd.R_drewN | apply Kd.R_drew); exact HO_12.out) gb479 (Nat.le_of_eq hg.symm)) hb)
            have n2_ := MS.am (Kd.R_below (Kd.R_elderB (by (with_reducible repeat first | apply Kd.R_alloc | apply Kd.R_drewN | apply Kd.R_drew); exact HO_13.out) gb479 (Nat.le_of_eq hg.symm)) hb)
            have n3_ := MS.am (Kd.R_below (Kd.R_elderB (by (with_reducible repeat first | apply Kd.R_alloc | apply Kd.R_drewN | apply Kd.R_drew); exact HO_26.out) gb479 (Nat.le_of_eq hg.symm)) hb)
            have n4_ := MS.am (blk_below (g := gb477) (o := .cells #[.int .i64 ((rd_T34 t473 x28_1).f0), .int .i64 (((rd_T34 t473 x28_1).f1) / 4), .int .i64 x478002_10, .int .i64 x478003_10, .int .i64 x478004_10, .int .i64 x478005_10, .int .i64 x478006_10] 34 (0, 0)) (by (with_reducible repeat first | refine blk_drewN ?_ _ | refine blk_drew ?_ | refine blk_alloc ?_ _); exact BK477.out) hb)
            have n5_ := MS.am (blk_below (g := gb478) (o := .cells #[.int .i64 0, .int .i64 0, .int .i64 0, .int .i64 0, .int .i64 0, .int .i64 0, .int .i64 0] 34 (0, 0)) (by (with_reducible repeat first | refine blk_drewN ?_ _ | refine blk_drew ?_ | refine blk_alloc ?_ _); exact BK478.out) hb)
            have n6_ := MS.am (below_step (by repeat (first | (with_reducible first | exact HB.out | apply below_alloc | apply pw_below_drewN | apply below_drew1 | refine below_set ?_ GE477.out | refine below_set ?_ GE478.out) | exact HB.out)) hb)
            have n7_ := MS.am (hbox)
            have n8_ := MS.am ((by rw [hg]; exact (below_size (by repeat (first | (with_reducible first | exact HB.out | apply below_alloc | apply pw_below_drewN | apply below_drew1 | refine below_set ?_ GE477.out | refine below_set ?_ GE478.out) | exact HB.out))) : w.heap.size ≤ gb479))
            have n9_ := MS.am ((by rw [hg]; exact (below_size (by repeat (first | (with_reducible first | exact HB.out | apply below_alloc | apply pw_below_drewN | apply below_drew1 | refine below_set ?_ GE477.out | refine below_set ?_ GE478.out) | exact HB.out))) : w.heap.size ≤ gb479))
            have n10_ := MS.am ((by rw [hg]; exact Nat.ne_of_lt (blk_lt (g := gb477) (o := .cells #[.int .i64 ((rd_T34 t473 x28_1).f0), .int .i64 (((rd_T34 t473 x28_1).f1) / 4), .int .i64 x478002_10, .int .i64 x478003_10, .int .i64 x478004_10, .int .i64 x478005_10, .int .i64 x478006_10] 34 (0, 0)) (by (with_reducible repeat first | refine blk_drewN ?_ _ | refine blk_drew ?_ | refine blk_alloc ?_ _); exact BK477.out)) : gb477 ≠ gb479))
            have n11_ := MS.am ((by rw [hg]; exact Nat.ne_of_gt (blk_lt (g := gb477) (o := .cells #[.int .i64 ((rd_T34 t473 x28_1).f0), .int .i64 (((rd_T34 t473 x28_1).f1) / 4), .int .i64 x478002_10, .int .i64 x478003_10, .int .i64 x478004_10, .int .i64 x478005_10, .int .i64 x478006_10] 34 (0, 0)) (by (with_reducible repeat first | refine blk_drewN ?_ _ | refine blk_drew ?_ | refine blk_alloc ?_ _); exact BK477.out)) : gb479 ≠ gb477))
            have n12_ := MS.am ((by rw [hg]; exact Nat.ne_of_lt (blk_lt (g := gb478) (o := .cells #[.int .i64 0, .int .i64 0, .int .i64 0, .int .i64 0, .int .i64 0, .int .i64 0, .int .i64 0] 34 (0, 0)) (by (with_reducible repeat first | refine blk_drewN ?_ _ | refine blk_drew ?_ | refine blk_alloc ?_ _); exact BK478.out)) : gb478 ≠ gb479))
            have n13_ := MS.am ((by rw [hg]; exact Nat.ne_of_gt (blk_lt (g := gb478) (o := .cells #[.int .i64 0, .int .i64 0, .int .i64 0, .int .i64 0, .int .i64 0, .int .i64 0, .int .i64 0] 34 (0, 0)) (by (with_reducible repeat first | refine blk_drewN ?_ _ | refine blk_drew ?_ | refine blk_alloc ?_ _); exact BK478.out)) : gb479 ≠ gb478))
            clear HO_9
            clear HO_12
            clear HO_13
            clear HO_26
            clear BK477
            clear BK478
            clear HB
            have HO_9 := n0_
            have HO_12 := n1_
            have HO_13 := n2_
            have HO_26 := n3_
            have BK477 := n4_
            have BK478 := n5_
            have HB := n6_
            have BK479 := n7_
            have GW479 := n8_
            have GE479 := n9_
            have NB477_479 := n10_
            have NB479_477 := n11_
            have NB478_479 := n12_
            have NB479_478 := n13_
            clear n0_ n1_ n2_ n3_ n4_ n5_ n6_ n7_ n8_ n9_ n10_ n11_ n12_ n13_
            clear hb hbox hg
            refine hK.out _ _ ⟨(blk_cell BK477.out 0).trans rfl, (blk_cell BK477.out 1).trans rfl, (blk_cell BK477.out 2).trans rfl, (blk_cell BK477.out 3).trans rfl, (blk_cell BK477.out 4).trans rfl, (blk_cell BK477.out 5).trans rfl, (blk_cell BK477.out 6).trans rfl⟩ (fun hHeld => ?_)
            clear hK K
            refine norm_ (a' := ?_) ?_ ?_
            rotate_left
            ·show Act.put _ (some 17) _ = _
             simp only [Act.put, List.setIfInBounds_toArray, List.set_cons_zero, List.set_cons_succ, i64_w, i32_w]
             rfl
            exact norm_ (by simp only [putAll, Act.put, List.setIfInBounds_toArray, List.set_cons_zero, List.set_cons_succ]) (hCont (gb478, gb479) _ ⟨hHeld, (by (with_reducible repeat first | apply Kd.R_alloc | apply Kd.R_drewN | apply Kd.R_drew); exact Kd.R_mono HO_12.out (fun _ hk => ⟨hk.1.1.2.1, ⟨hk.1.1.2.2.1, ⟨hk.1.1.1, ⟨hk.1.1.2.2.2, ⟨hk.1.2, hk.2⟩⟩⟩⟩⟩)), (by (with_reducible repeat first | apply Kd.R_alloc | apply Kd.R_drewN | apply Kd.R_drew); exact Kd.R_mono HO_13.out (fun _ hk => ⟨hk.1.1.2.1, ⟨hk.1.1.2.2.1, ⟨hk.1.1.1, ⟨hk.1.1.2.2.2, ⟨hk.1.2, hk.2⟩⟩⟩⟩⟩)), (by (with_reducible repeat first | apply Kd.R_alloc | apply Kd.R_drewN | apply Kd.R_drew); exact Kd.R_mono HO_26.out (fun _ hk => ⟨hk.1.1.1, ⟨hk.1.1.2.1, ⟨hk.1.1.2.2, ⟨hk.1.2, hk.2⟩⟩⟩⟩)), (by (with_reducible repeat first | apply Kd.R_alloc | apply Kd.R_drewN | apply Kd.R_drew); exact Kd.R_mono HO_9.out (fun _ hk => ⟨hk.1.1.1, ⟨hk.1.1.2.1, ⟨hk.1.1.2.2, ⟨hk.1.2, hk.2⟩⟩⟩⟩)), (by (with_reducible repeat first | refine blk_drewN ?_ _ | refine blk_drew ?_ | refine blk_alloc ?_ _); exact BK477.out), (by (with_reducible repeat first | refine blk_drewN ?_ _ | refine blk_drew ?_ | refine blk_alloc ?_ _); exact BK478.out), (by (with_reducible repeat first | refine blk_drewN ?_ _ | refine blk_drew ?_ | refine blk_alloc ?_ _); exact BK479.out), GW478.out, GE478.out, NB477_478.out, NB478_477.out, NB479_478.out, NB478_479.out, GW479.out, GE479.out, NB477_479.out, NB479_477.out, (by repeat (first | (with_reducible first | exact HB.out | apply below_alloc | apply pw_below_drewN | apply below_drew1 | refine below_set ?_ GE477.out | refine below_set ?_ GE478.out | refine below_set ?_ GE479.out) | exact HB.out))⟩)
           ·skip
            refine box_step ?hg (N := 17) ?hd (cs := #[.int .i64 0, .int .i64 0, .int .i64 0, .int .i64 0, .int .i64 0, .int .i64 0, .int .i64 0]) (t := 34) ?hr ?_; (case hd => rfl); (case hg => rfl); (case hr => first | (go_simp; done) | (go_simp; rfl))
            intro gb479 hg w21 hbox hb
            have n0_ := MS.am (Kd.R_below (Kd.R_elderB (by (with_reducible repeat first | apply Kd.R_alloc | apply Kd.R_drewN | apply Kd.R_drew); exact HO_9.out) gb479 (Nat.le_of_eq hg.symm)) hb)
            have n1_ := MS.am (Kd.R_below (Kd.R_elderB (by (with_reducible repeat first | apply Kd.R_alloc | apply Kd.R_drewN | apply Kd.R_drew); exact HO_12.out) gb479 (Nat.le_of_eq hg.symm)) hb)
            have n2_ := MS.am (Kd.R_below (Kd.R_elderB (by (with_reducible repeat first | apply Kd.R_alloc | apply Kd.R_drewN | apply Kd.R_drew); exact HO_13.out) gb479 (Nat.le_of_eq hg.symm)) hb)
            have n3_ := MS.am (Kd.R_below (Kd.R_elderB (by (with_reducible repeat first | apply Kd.R_alloc | apply Kd.R_drewN | apply Kd.R_drew); exact HO_26.out) gb479 (Nat.le_of_eq hg.symm)) hb)
            have n4_ := MS.am (blk_below (g := gb477) (o := .cells #[.int .i64 ((rd_T34 t473 x28_1).f0), .int .i64 (((rd_T34 t473 x28_1).f1) / 4), .int .i64 x478002_10, .int .i64 x478003_10, .int .i64 x478004_10, .int .i64 x478005_10, .int .i64 x478006_10] 34 (0, 0)) (by (with_reducible repeat first | refine blk_drewN ?_ _ | refine blk_drew ?_ | refine blk_alloc ?_ _); exact BK477.out) hb)
            have n5_ := MS.am (below_step (by repeat (first | (with_reducible first | exact HB.out | apply below_alloc | apply pw_below_drewN | apply below_drew1 | refine below_set ?_ GE477.out) | exact HB.out)) hb)
            have n6_ := MS.am (hbox)
            have n7_ := MS.am ((by rw [hg]; exact (below_size (by repeat (first | (with_reducible first | exact HB.out | apply below_alloc | apply pw_below_drewN | apply below_drew1 | refine below_set ?_ GE477.out) | exact HB.out))) : w.heap.size ≤ gb479))
            have n8_ := MS.am ((by rw [hg]; exact (below_size (by repeat (first | (with_reducible first | exact HB.out | apply below_alloc | apply pw_below_drewN | apply below_drew1 | refine below_set ?_ GE477.out) | exact HB.out))) : w.heap.size ≤ gb479))
            have n9_ := MS.am ((by rw [hg]; exact Nat.ne_of_lt (blk_lt (g := gb477) (o := .cells #[.int .i64 ((rd_T34 t473 x28_1).f0), .int .i64 (((rd_T34 t473 x28_1).f1) / 4), .int .i64 x478002_10, .int .i64 x478003_10, .int .i64 x478004_10, .int .i64 x478005_10, .int .i64 x478006_10] 34 (0, 0)) (by (with_reducible repeat first | refine blk_drewN ?_ _ | refine blk_drew ?_ | refine blk_alloc ?_ _); exact BK477.out)) : gb477 ≠ gb479))
            have n10_ := MS.am ((by rw [hg]; exact Nat.ne_of_gt (blk_lt (g := gb477) (o := .cells #[.int .i64 ((rd_T34 t473 x28_1).f0), .int .i64 (((rd_T34 t473 x28_1).f1) / 4), .int .i64 x478002_10, .int .i64 x478003_10, .int .i64 x478004_10, .int .i64 x478005_10, .int .i64 x478006_10] 34 (0, 0)) (by (with_reducible repeat first | refine blk_drewN ?_ _ | refine blk_drew ?_ | refine blk_alloc ?_ _); exact BK477.out)) : gb479 ≠ gb477))
            clear HO_9
            clear HO_12
            clear HO_13
            clear HO_26
            clear BK477
            clear HB
            have HO_9 := n0_
            have HO_12 := n1_
            have HO_13 := n2_
            have HO_26 := n3_
            have BK477 := n4_
            have HB := n5_
            have BK479 := n6_
            have GW479 := n7_
            have GE479 := n8_
            have NB477_479 := n9_
            have NB479_477 := n10_
            clear n0_ n1_ n2_ n3_ n4_ n5_ n6_ n7_ n8_ n9_ n10_
            clear hb hbox hg
            refine hK.out _ _ ⟨(blk_cell BK477.out 0).trans rfl, (blk_cell BK477.out 1).trans rfl, (blk_cell BK477.out 2).trans rfl, (blk_cell BK477.out 3).trans rfl, (blk_cell BK477.out 4).trans rfl, (blk_cell BK477.out 5).trans rfl, (blk_cell BK477.out 6).trans rfl⟩ (fun hHeld => ?_)
            clear hK K
            refine norm_ (a' := ?_) ?_ ?_
            rotate_left
            ·show Act.put _ (some 17) _ = _
             simp only [Act.put, List.setIfInBounds_toArray, List.set_cons_zero, List.set_cons_succ, i64_w, i32_w]
             rfl
            refine one_ (i := 2) (N := some 16) #[true, true, true, true, false, false] rfl rfl (by kernel_rfl) (by decide) (fun K hK => ?_)
            refine box_step ?hg (N := 16) ?hd (cs := #[.int .i64 0, .int .i64 0, .int .i64 0, .int .i64 0, .int .i64 0, .int .i64 0, .int .i64 0]) (t := 34) ?hr ?_; (case hd => rfl); (case hg => rfl); (case hr => first | (go_simp; done) | (go_simp; rfl))
            intro gb478 hg w22 hbox hb
            have n0_ := MS.am (Kd.R_below (Kd.R_elderB (by (with_reducible repeat first | apply Kd.R_alloc | apply Kd.R_drewN | apply Kd.R_drew); exact HO_9.out) gb478 (Nat.le_of_eq hg.symm)) hb)
            have n1_ := MS.am (Kd.R_below (Kd.R_elderB (by (with_reducible repeat first | apply Kd.R_alloc | apply Kd.R_drewN | apply Kd.R_drew); exact HO_12.out) gb478 (Nat.le_of_eq hg.symm)) hb)
            have n2_ := MS.am (Kd.R_below (Kd.R_elderB (by (with_reducible repeat first | apply Kd.R_alloc | apply Kd.R_drewN | apply Kd.R_drew); exact HO_13.out) gb478 (Nat.le_of_eq hg.symm)) hb)
            have n3_ := MS.am (Kd.R_below (Kd.R_elderB (by (with_reducible repeat first | apply Kd.R_alloc | apply Kd.R_drewN | apply Kd.R_drew); exact HO_26.out) gb478 (Nat.le_of_eq hg.symm)) hb)
            have n4_ := MS.am (blk_below (g := gb477) (o := .cells #[.int .i64 ((rd_T34 t473 x28_1).f0), .int .i64 (((rd_T34 t473 x28_1).f1) / 4), .int .i64 x478002_10, .int .i64 x478003_10, .int .i64 x478004_10, .int .i64 x478005_10, .int .i64 x478006_10] 34 (0, 0)) (by (with_reducible repeat first | refine blk_drewN ?_ _ | refine blk_drew ?_ | refine blk_alloc ?_ _); exact BK477.out) hb)
            have n5_ := MS.am (blk_below (g := gb479) (o := .cells #[.int .i64 0, .int .i64 0, .int .i64 0, .int .i64 0, .int .i64 0, .int .i64 0, .int .i64 0] 34 (0, 0)) (by (with_reducible repeat first | refine blk_drewN ?_ _ | refine blk_drew ?_ | refine blk_alloc ?_ _); exact BK479.out) hb)
            have n6_ := MS.am (below_step (by repeat (first | (with_reducible first | exact HB.out | apply below_alloc | apply pw_below_drewN | apply below_drew1 | refine below_set ?_ GE477.out | refine below_set ?_ GE479.out) | exact HB.out)) hb)
            have n7_ := MS.am (hbox)
            have n8_ := MS.am ((by rw [hg]; exact (below_size (by repeat (first | (with_reducible first | exact HB.out | apply below_alloc | apply pw_below_drewN | apply below_drew1 | refine below_set ?_ GE477.out | refine below_set ?_ GE479.out) | exact HB.out))) : w.heap.size ≤ gb478))
            have n9_ := MS.am ((by rw [hg]; exact (below_size (by repeat (first | (with_reducible first | exact HB.out | apply below_alloc | apply pw_below_drewN | apply below_drew1 | refine below_set ?_ GE477.out | refine below_set ?_ GE479.out) | exact HB.out))) : w.heap.size ≤ gb478))
            have n10_ := MS.am ((by rw [hg]; exact Nat.ne_of_lt (blk_lt (g := gb477) (o := .cells #[.int .i64 ((rd_T34 t473 x28_1).f0), .int .i64 (((rd_T34 t473 x28_1).f1) / 4), .int .i64 x478002_10, .int .i64 x478003_10, .int .i64 x478004_10, .int .i64 x478005_10, .int .i64 x478006_10] 34 (0, 0)) (by (with_reducible repeat first | refine blk_drewN ?_ _ | refine blk_drew ?_ | refine blk_alloc ?_ _); exact BK477.out)) : gb477 ≠ gb478))
            have n11_ := MS.am ((by rw [hg]; exact Nat.ne_of_gt (blk_lt (g := gb477) (o := .cells #[.int .i64 ((rd_T34 t473 x28_1).f0), .int .i64 (((rd_T34 t473 x28_1).f1) / 4), .int .i64 x478002_10, .int .i64 x478003_10, .int .i64 x478004_10, .int .i64 x478005_10, .int .i64 x478006_10] 34 (0, 0)) (by (with_reducible repeat first | refine blk_drewN ?_ _ | refine blk_drew ?_ | refine blk_alloc ?_ _); exact BK477.out)) : gb478 ≠ gb477))
            have n12_ := MS.am ((by rw [hg]; exact Nat.ne_of_lt (blk_lt (g := gb479) (o := .cells #[.int .i64 0, .int .i64 0, .int .i64 0, .int .i64 0, .int .i64 0, .int .i64 0, .int .i64 0] 34 (0, 0)) (by (with_reducible repeat first | refine blk_drewN ?_ _ | refine blk_drew ?_ | refine blk_alloc ?_ _); exact BK479.out)) : gb479 ≠ gb478))
            have n13_ := MS.am ((by rw [hg]; exact Nat.ne_of_gt (blk_lt (g := gb479) (o := .cells #[.int .i64 0, .int .i64 0, .int .i64 0, .int .i64 0, .int .i64 0, .int .i64 0, .int .i64 0] 34 (0, 0)) (by (with_reducible repeat first | refine blk_drewN ?_ _ | refine blk_drew ?_ | refine blk_alloc ?_ _); exact BK479.out)) : gb478 ≠ gb479))
            clear HO_9
            clear HO_12
            clear HO_13
            clear HO_26
            clear BK477
            clear BK479
            clear HB
            have HO_9 := n0_
            have HO_12 := n1_
            have HO_13 := n2_
            have HO_26 := n3_
            have BK477 := n4_
            have BK479 := n5_
            have HB := n6_
            have BK478 := n7_
            have GW478 := n8_
            have GE478 := n9_
            have NB477_478 := n10_
            have NB478_477 := n11_
            have NB479_478 := n12_
            have NB478_479 := n13_
            clear n0_ n1_ n2_ n3_ n4_ n5_ n6_ n7_ n8_ n9_ n10_ n11_ n12_ n13_
            clear hb hbox hg
            refine hK.out _ _ ⟨(blk_cell BK477.out 0).trans rfl, (blk_cell BK477.out 1).trans rfl, (blk_cell BK477.out 2).trans rfl, (blk_cell BK477.out 3).trans rfl, (blk_cell BK477.out 4).trans rfl, (blk_cell BK477.out 5).trans rfl, (blk_cell BK477.out 6).trans rfl⟩ (fun hHeld => ?_)
            clear hK K
            refine norm_ (a' := ?_) ?_ ?_
            rotate_left
            ·show Act.put _ (some 16) _ = _
             simp only [Act.put, List.setIfInBounds_toArray, List.set_cons_zero, List.set_cons_succ, i64_w, i32_w]
             rfl
            exact norm_ (by simp only [putAll, Act.put, List.setIfInBounds_toArray, List.set_cons_zero, List.set_cons_succ]) (hCont (gb478, gb479) _ ⟨hHeld, (by (with_reducible repeat first | apply Kd.R_alloc | apply Kd.R_drewN | apply Kd.R_drew); exact Kd.R_mono HO_12.out (fun _ hk => ⟨hk.1.1.2.1, ⟨hk.1.1.2.2.1, ⟨hk.1.1.1, ⟨hk.1.1.2.2.2, ⟨hk.2, hk.1.2⟩⟩⟩⟩⟩)), (by (with_reducible repeat first | apply Kd.R_alloc | apply Kd.R_drewN | apply Kd.R_drew); exact Kd.R_mono HO_13.out (fun _ hk => ⟨hk.1.1.2.1, ⟨hk.1.1.2.2.1, ⟨hk.1.1.1, ⟨hk.1.1.2.2.2, ⟨hk.2, hk.1.2⟩⟩⟩⟩⟩)), (by (with_reducible repeat first | apply Kd.R_alloc | apply Kd.R_drewN | apply Kd.R_drew); exact Kd.R_mono HO_26.out (fun _ hk => ⟨hk.1.1.1, ⟨hk.1.1.2.1, ⟨hk.1.1.2.2, ⟨hk.2, hk.1.2⟩⟩⟩⟩)), (by (with_reducible repeat first | apply Kd.R_alloc | apply Kd.R_drewN | apply Kd.R_drew); exact Kd.R_mono HO_9.out (fun _ hk => ⟨hk.1.1.1, ⟨hk.1.1.2.1, ⟨hk.1.1.2.2, ⟨hk.2, hk.1.2⟩⟩⟩⟩)), (by (with_reducible repeat first | refine blk_drewN ?_ _ | refine blk_drew ?_ | refine blk_alloc ?_ _); exact BK477.out), (by (with_reducible repeat first | refine blk_drewN ?_ _ | refine blk_drew ?_ | refine blk_alloc ?_ _); exact BK478.out), (by (with_reducible repeat first | refine blk_drewN ?_ _ | refine blk_drew ?_ | refine blk_alloc ?_ _); exact BK479.out), GW478.out, GE478.out, NB477_478.out, NB478_477.out, NB479_478.out, NB478_479.out, GW479.out, GE479.out, NB477_479.out, NB479_477.out, (by repeat (first | (with_reducible first | exact HB.out | apply below_alloc | apply pw_below_drewN | apply below_drew1 | refine below_set ?_ GE477.out | refine below_set ?_ GE479.out | refine below_set ?_ GE478.out) | exact HB.out))⟩)
          rintro ⟨gb478, gb479⟩ w23 ⟨hS_, h0_, h1_, h2_, h3_, h4_, h5_, h6_, h7_, h8_, h9_, h10_, h11_, h12_, h13_, h14_, h15_, h16_, h17_⟩
          have n0_ : Aside0 (Kd.R k34 34 w23 w.heap.size (fun k_ => some k_ ≠ (u13 : Value).ownBlock ∧ some k_ ≠ (.slice (some ad476) t473.length co7 : Value).ownBlock ∧ some k_ ≠ (.slice (some ad476) t473.length co7 : Value).ownBlock ∧ k_ ≠ gb477 ∧ k_ ≠ gb478 ∧ k_ ≠ gb479) u12 x12_1) := ⟨h0_⟩
          have n1_ : Aside0 (Kd.R k34 34 w23 w.heap.size (fun k_ => some k_ ≠ (u12 : Value).ownBlock ∧ some k_ ≠ (.slice (some ad476) t473.length co7 : Value).ownBlock ∧ some k_ ≠ (.slice (some ad476) t473.length co7 : Value).ownBlock ∧ k_ ≠ gb477 ∧ k_ ≠ gb478 ∧ k_ ≠ gb479) u13 x13_1) := ⟨h1_⟩
          have n2_ : Aside0 (Kd.R k34 34 w23 w.heap.size (fun k_ => some k_ ≠ (u12 : Value).ownBlock ∧ some k_ ≠ (u13 : Value).ownBlock ∧ k_ ≠ gb477 ∧ k_ ≠ gb478 ∧ k_ ≠ gb479) (.slice (some ad476) t473.length co7) t473) := ⟨h2_⟩
          have n3_ : Aside0 (Kd.R k34 34 w23 w.heap.size (fun k_ => some k_ ≠ (u12 : Value).ownBlock ∧ some k_ ≠ (u13 : Value).ownBlock ∧ k_ ≠ gb477 ∧ k_ ≠ gb478 ∧ k_ ≠ gb479) (.slice (some ad476) t473.length co7) t473) := ⟨h3_⟩
          have n4_ : Aside0 (w23.heap[gb477]? = some (.cells #[.int .i64 ((rd_T34 t473 x28_1).f0), .int .i64 (((rd_T34 t473 x28_1).f1) / 4), .int .i64 x478002_10, .int .i64 x478003_10, .int .i64 x478004_10, .int .i64 x478005_10, .int .i64 x478006_10] 34 (0, 0))) := ⟨h4_⟩
          have n5_ : Aside0 (w23.heap[gb478]? = some (.cells #[.int .i64 0, .int .i64 0, .int .i64 0, .int .i64 0, .int .i64 0, .int .i64 0, .int .i64 0] 34 (0, 0))) := ⟨h5_⟩
          have n6_ : Aside0 (w23.heap[gb479]? = some (.cells #[.int .i64 0, .int .i64 0, .int .i64 0, .int .i64 0, .int .i64 0, .int .i64 0, .int .i64 0] 34 (0, 0))) := ⟨h6_⟩
          have n7_ : Aside0 (w.heap.size ≤ gb478) := ⟨h7_⟩
          have n8_ : Aside0 (w.heap.size ≤ gb478) := ⟨h8_⟩
          have n9_ : Aside0 (gb477 ≠ gb478) := ⟨h9_⟩
          have n10_ : Aside0 (gb478 ≠ gb477) := ⟨h10_⟩
          have n11_ : Aside0 (gb479 ≠ gb478) := ⟨h11_⟩
          have n12_ : Aside0 (gb478 ≠ gb479) := ⟨h12_⟩
          have n13_ : Aside0 (w.heap.size ≤ gb479) := ⟨h13_⟩
          have n14_ : Aside0 (w.heap.size ≤ gb479) := ⟨h14_⟩
          have n15_ : Aside0 (gb477 ≠ gb479) := ⟨h15_⟩
          have n16_ : Aside0 (gb479 ≠ gb477) := ⟨h16_⟩
          have n17_ : Aside0 (Below w.heap.size w w23) := ⟨h17_⟩
          clear HO_9
          clear HO_12
          clear HO_13
          clear HO_26
          clear BK477
          clear HB
          clear h0_ h1_ h2_ h3_ h4_ h5_ h6_ h7_ h8_ h9_ h10_ h11_ h12_ h13_ h14_ h15_ h16_ h17_
          have HO_12 := n0_
          have HO_13 := n1_
          have HO_26 := n2_
          have HO_9 := n3_
          have BK477 := n4_
          have BK478 := n5_
          have BK479 := n6_
          have GW478 := n7_
          have GE478 := n8_
          have NB477_478 := n9_
          have NB478_477 := n10_
          have NB479_478 := n11_
          have NB478_479 := n12_
          have GW479 := n13_
          have GE479 := n14_
          have NB477_479 := n15_
          have NB479_477 := n16_
          have HB := n17_
          clear n0_ n1_ n2_ n3_ n4_ n5_ n6_ n7_ n8_ n9_ n10_ n11_ n12_ n13_ n14_ n15_ n16_ n17_
          have hHeld : w23.cell? ⟨gb477, 0, none⟩ = some (.int .i64 ((rd_T34 t473 x28_1).f0)) ∧ w23.cell? ⟨gb477, 1, none⟩ = some (.int .i64 (((rd_T34 t473 x28_1).f1) / 4)) ∧ w23.cell? ⟨gb477, 2, none⟩ = some (.int .i64 x478002_10) ∧ w23.cell? ⟨gb477, 3, none⟩ = some (.int .i64 x478003_10) ∧ w23.cell? ⟨gb477, 4, none⟩ = some (.int .i64 x478004_10) ∧ w23.cell? ⟨gb477, 5, none⟩ = some (.int .i64 x478005_10) ∧ w23.cell? ⟨gb477, 6, none⟩ = some (.int .i64 x478006_10) := hS_
          refine norm_ (a' := ?_) ?_ ?_
          rotate_left
          ·simp only [putAll, Act.put, List.setIfInBounds_toArray, List.set_cons_zero, List.set_cons_succ]
           rfl
          refine one_ (i := 4) (N := none) #[true, true, true, true, true, false] rfl rfl (by kernel_rfl) (by decide) (fun K hK => ?_)
          have hs24 : w23.cell? ⟨gb478, 0, none⟩ = some (.int .i64 0) := (blk_cell BK478.out 0).trans rfl
          have hfs24 := blk_frozen BK478.out 0
          have hns24_0 := NB477_478.out
          have hns24_2 := NB479_478.out
          have hms24_0 := NB478_477.out
          have hms24_2 := NB478_479.out
          have hs25 : w23.cell? ⟨gb478, 1, none⟩ = some (.int .i64 0) := (blk_cell BK478.out 1).trans rfl
          have hfs25 := blk_frozen BK478.out 1
          have hns25_0 := NB477_478.out
          have hns25_2 := NB479_478.out
          have hms25_0 := NB478_477.out
          have hms25_2 := NB478_479.out
          have hs26 : w23.cell? ⟨gb478, 2, none⟩ = some (.int .i64 0) := (blk_cell BK478.out 2).trans rfl
          have hfs26 := blk_frozen BK478.out 2
          have hns26_0 := NB477_478.out
          have hns26_2 := NB479_478.out
          have hms26_0 := NB478_477.out
          have hms26_2 := NB478_479.out
          have hs27 : w23.cell? ⟨gb478, 3, none⟩ = some (.int .i64 0) := (blk_cell BK478.out 3).trans rfl
          have hfs27 := blk_frozen BK478.out 3
          have hns27_0 := NB477_478.out
          have hns27_2 := NB479_478.out
          have hms27_0 := NB478_477.out
          have hms27_2 := NB478_479.out
          have hs28 : w23.cell? ⟨gb478, 4, none⟩ = some (.int .i64 0) := (blk_cell BK478.out 4).trans rfl
          have hfs28 := blk_frozen BK478.out 4
          have hns28_0 := NB477_478.out
          have hns28_2 := NB479_478.out
          have hms28_0 := NB478_477.out
          have hms28_2 := NB478_479.out
          have hs29 : w23.cell? ⟨gb478, 5, none⟩ = some (.int .i64 0) := (blk_cell BK478.out 5).trans rfl
          have hfs29 := blk_frozen BK478.out 5
          have hns29_0 := NB477_478.out
          have hns29_2 := NB479_478.out
          have hms29_0 := NB478_477.out
          have hms29_2 := NB478_479.out
          have hs30 : w23.cell? ⟨gb478, 6, none⟩ = some (.int .i64 0) := (blk_cell BK478.out 6).trans rfl
          have hfs30 := blk_frozen BK478.out 6
          have hns30_0 := NB477_478.out
          have hns30_2 := NB479_478.out
          have hms30_0 := NB478_477.out
          have hms30_2 := NB478_479.out
          refine skip_ (w1 := ?_) ?_ ?_ ?_ ?_
          rotate_left
          ·rfl
          ·rfl
          ·go_simp
           rfl
          refine hK.out _ _ ⟨((cell_far (p := ⟨gb478, _, none⟩) NB477_478.out _).trans (((cell_far (p := ⟨gb478, _, none⟩) NB477_478.out _).trans (((cell_far (p := ⟨gb478, _, none⟩) NB477_478.out _).trans (((cell_far (p := ⟨gb478, _, none⟩) NB477_478.out _).trans (((cell_far (p := ⟨gb478, _, none⟩) NB477_478.out _).trans (((cell_far (p := ⟨gb478, _, none⟩) NB477_478.out _).trans (((cell_far (p := ⟨gb478, _, none⟩) NB477_478.out _).trans (hHeld.1)))))))))))))), ((cell_far (p := ⟨gb478, _, none⟩) NB477_478.out _).trans (((cell_far (p := ⟨gb478, _, none⟩) NB477_478.out _).trans (((cell_far (p := ⟨gb478, _, none⟩) NB477_478.out _).trans (((cell_far (p := ⟨gb478, _, none⟩) NB477_478.out _).trans (((cell_far (p := ⟨gb478, _, none⟩) NB477_478.out _).trans (((cell_far (p := ⟨gb478, _, none⟩) NB477_478.out _).trans (((cell_far (p := ⟨gb478, _, none⟩) NB477_478.out _).trans (hHeld.2.1)))))))))))))), ((cell_far (p := ⟨gb478, _, none⟩) NB477_478.out _).trans (((cell_far (p := ⟨gb478, _, none⟩) NB477_478.out _).trans (((cell_far (p := ⟨gb478, _, none⟩) NB477_478.out _).trans (((cell_far (p := ⟨gb478, _, none⟩) NB477_478.out _).trans (((cell_far (p := ⟨gb478, _, none⟩) NB477_478.out _).trans (((cell_far (p := ⟨gb478, _, none⟩) NB477_478.out _).trans (((cell_far (p := ⟨gb478, _, none⟩) NB477_478.out _).trans (hHeld.2.2.1)))))))))))))), ((cell_far (p := ⟨gb478, _, none⟩) NB477_478.out _).trans (((cell_far (p := ⟨gb478, _, none⟩) NB477_478.out _).trans (((cell_far (p := ⟨gb478, _, none⟩) NB477_478.out _).trans (((cell_far (p := ⟨gb478, _, none⟩) NB477_478.out _).trans (((cell_far (p := ⟨gb478, _, none⟩) NB477_478.out _).trans (((cell_far (p := ⟨gb478, _, none⟩) NB477_478.out _).trans (((cell_far (p := ⟨gb478, _, none⟩) NB477_478.out _).trans (hHeld.2.2.2.1)))))))))))))), ((cell_far (p := ⟨gb478, _, none⟩) NB477_478.out _).trans (((cell_far (p := ⟨gb478, _, none⟩) NB477_478.out _).trans (((cell_far (p := ⟨gb478, _, none⟩) NB477_478.out _).trans (((cell_far (p := ⟨gb478, _, none⟩) NB477_478.out _).trans (((cell_far (p := ⟨gb478, _, none⟩) NB477_478.out _).trans (((cell_far (p := ⟨gb478, _, none⟩) NB477_478.out _).trans (((cell_far (p := ⟨gb478, _, none⟩) NB477_478.out _).trans (hHeld.2.2.2.2.1)))))))))))))), ((cell_far (p := ⟨gb478, _, none⟩) NB477_478.out _).trans (((cell_far (p := ⟨gb478, _, none⟩) NB477_478.out _).trans (((cell_far (p := ⟨gb478, _, none⟩) NB477_478.out _).trans (((cell_far (p := ⟨gb478, _, none⟩) NB477_478.out _).trans (((cell_far (p := ⟨gb478, _, none⟩) NB477_478.out _).trans (((cell_far (p := ⟨gb478, _, none⟩) NB477_478.out _).trans (((cell_far (p := ⟨gb478, _, none⟩) NB477_478.out _).trans (hHeld.2.2.2.2.2.1)))))))))))))), ((cell_far (p := ⟨gb478, _, none⟩) NB477_478.out _).trans (((cell_far (p := ⟨gb478, _, none⟩) NB477_478.out _).trans (((cell_far (p := ⟨gb478, _, none⟩) NB477_478.out _).trans (((cell_far (p := ⟨gb478, _, none⟩) NB477_478.out _).trans (((cell_far (p := ⟨gb478, _, none⟩) NB477_478.out _).trans (((cell_far (p := ⟨gb478, _, none⟩) NB477_478.out _).trans (((cell_far (p := ⟨gb478, _, none⟩) NB477_478.out _).trans (hHeld.2.2.2.2.2.2))))))))))))))⟩ (fun hHeld => ?_)
          clear hK K
          refine one_ (i := 5) (N := none) #[true, true, true, true, true, true] rfl rfl (by kernel_rfl) (by decide) (fun K hK => ?_)
          have hs31 : w23.cell? ⟨gb479, 0, none⟩ = some (.int .i64 0) := (blk_cell BK479.out 0).trans rfl
          have hfs31 := blk_frozen BK479.out 0
          have hns31_0 := NB477_479.out
          have hns31_1 := NB478_479.out
          have hms31_0 := NB479_477.out
          have hms31_1 := NB479_478.out
          have hs32 : w23.cell? ⟨gb479, 1, none⟩ = some (.int .i64 0) := (blk_cell BK479.out 1).trans rfl
          have hfs32 := blk_frozen BK479.out 1
          have hns32_0 := NB477_479.out
          have hns32_1 := NB478_479.out
          have hms32_0 := NB479_477.out
          have hms32_1 := NB479_478.out
          have hs33 : w23.cell? ⟨gb479, 2, none⟩ = some (.int .i64 0) := (blk_cell BK479.out 2).trans rfl
          have hfs33 := blk_frozen BK479.out 2
          have hns33_0 := NB477_479.out
          have hns33_1 := NB478_479.out
          have hms33_0 := NB479_477.out
          have hms33_1 := NB479_478.out
          have hs34 : w23.cell? ⟨gb479, 3, none⟩ = some (.int .i64 0) := (blk_cell BK479.out 3).trans rfl
          have hfs34 := blk_frozen BK479.out 3
          have hns34_0 := NB477_479.out
          have hns34_1 := NB478_479.out
          have hms34_0 := NB479_477.out
          have hms34_1 := NB479_478.out
          have hs35 : w23.cell? ⟨gb479, 4, none⟩ = some (.int .i64 0) := (blk_cell BK479.out 4).trans rfl
          have hfs35 := blk_frozen BK479.out 4
          have hns35_0 := NB477_479.out
          have hns35_1 := NB478_479.out
          have hms35_0 := NB479_477.out
          have hms35_1 := NB479_478.out
          have hs36 : w23.cell? ⟨gb479, 5, none⟩ = some (.int .i64 0) := (blk_cell BK479.out 5).trans rfl
          have hfs36 := blk_frozen BK479.out 5
          have hns36_0 := NB477_479.out
          have hns36_1 := NB478_479.out
          have hms36_0 := NB479_477.out
          have hms36_1 := NB479_478.out
          have hs37 : w23.cell? ⟨gb479, 6, none⟩ = some (.int .i64 0) := (blk_cell BK479.out 6).trans rfl
          have hfs37 := blk_frozen BK479.out 6
          have hns37_0 := NB477_479.out
          have hns37_1 := NB478_479.out
          have hms37_0 := NB479_477.out
          have hms37_1 := NB479_478.out
          refine skip_ (w1 := ?_) ?_ ?_ ?_ ?_
          rotate_left
          ·rfl
          ·rfl
          ·go_simp
           rfl
          refine hK.out _ _ ⟨((cell_far (p := ⟨gb479, _, none⟩) NB477_479.out _).trans (((cell_far (p := ⟨gb479, _, none⟩) NB477_479.out _).trans (((cell_far (p := ⟨gb479, _, none⟩) NB477_479.out _).trans (((cell_far (p := ⟨gb479, _, none⟩) NB477_479.out _).trans (((cell_far (p := ⟨gb479, _, none⟩) NB477_479.out _).trans (((cell_far (p := ⟨gb479, _, none⟩) NB477_479.out _).trans (((cell_far (p := ⟨gb479, _, none⟩) NB477_479.out _).trans (hHeld.1)))))))))))))), ((cell_far (p := ⟨gb479, _, none⟩) NB477_479.out _).trans (((cell_far (p := ⟨gb479, _, none⟩) NB477_479.out _).trans (((cell_far (p := ⟨gb479, _, none⟩) NB477_479.out _).trans (((cell_far (p := ⟨gb479, _, none⟩) NB477_479.out _).trans (((cell_far (p := ⟨gb479, _, none⟩) NB477_479.out _).trans (((cell_far (p := ⟨gb479, _, none⟩) NB477_479.out _).trans (((cell_far (p := ⟨gb479, _, none⟩) NB477_479.out _).trans (hHeld.2.1)))))))))))))), ((cell_far (p := ⟨gb479, _, none⟩) NB477_479.out _).trans (((cell_far (p := ⟨gb479, _, none⟩) NB477_479.out _).trans (((cell_far (p := ⟨gb479, _, none⟩) NB477_479.out _).trans (((cell_far (p := ⟨gb479, _, none⟩) NB477_479.out _).trans (((cell_far (p := ⟨gb479, _, none⟩) NB477_479.out _).trans (((cell_far (p := ⟨gb479, _, none⟩) NB477_479.out _).trans (((cell_far (p := ⟨gb479, _, none⟩) NB477_479.out _).trans (hHeld.2.2.1)))))))))))))), ((cell_far (p := ⟨gb479, _, none⟩) NB477_479.out _).trans (((cell_far (p := ⟨gb479, _, none⟩) NB477_479.out _).trans (((cell_far (p := ⟨gb479, _, none⟩) NB477_479.out _).trans (((cell_far (p := ⟨gb479, _, none⟩) NB477_479.out _).trans (((cell_far (p := ⟨gb479, _, none⟩) NB477_479.out _).trans (((cell_far (p := ⟨gb479, _, none⟩) NB477_479.out _).trans (((cell_far (p := ⟨gb479, _, none⟩) NB477_479.out _).trans (hHeld.2.2.2.1)))))))))))))), ((cell_far (p := ⟨gb479, _, none⟩) NB477_479.out _).trans (((cell_far (p := ⟨gb479, _, none⟩) NB477_479.out _).trans (((cell_far (p := ⟨gb479, _, none⟩) NB477_479.out _).trans (((cell_far (p := ⟨gb479, _, none⟩) NB477_479.out _).trans (((cell_far (p := ⟨gb479, _, none⟩) NB477_479.out _).trans (((cell_far (p := ⟨gb479, _, none⟩) NB477_479.out _).trans (((cell_far (p := ⟨gb479, _, none⟩) NB477_479.out _).trans (hHeld.2.2.2.2.1)))))))))))))), ((cell_far (p := ⟨gb479, _, none⟩) NB477_479.out _).trans (((cell_far (p := ⟨gb479, _, none⟩) NB477_479.out _).trans (((cell_far (p := ⟨gb479, _, none⟩) NB477_479.out _).trans (((cell_far (p := ⟨gb479, _, none⟩) NB477_479.out _).trans (((cell_far (p := ⟨gb479, _, none⟩) NB477_479.out _).trans (((cell_far (p := ⟨gb479, _, none⟩) NB477_479.out _).trans (((cell_far (p := ⟨gb479, _, none⟩) NB477_479.out _).trans (hHeld.2.2.2.2.2.1)))))))))))))), ((cell_far (p := ⟨gb479, _, none⟩) NB477_479.out _).trans (((cell_far (p := ⟨gb479, _, none⟩) NB477_479.out _).trans (((cell_far (p := ⟨gb479, _, none⟩) NB477_479.out _).trans (((cell_far (p := ⟨gb479, _, none⟩) NB477_479.out _).trans (((cell_far (p := ⟨gb479, _, none⟩) NB477_479.out _).trans (((cell_far (p := ⟨gb479, _, none⟩) NB477_479.out _).trans (((cell_far (p := ⟨gb479, _, none⟩) NB477_479.out _).trans (hHeld.2.2.2.2.2.2))))))))))))))⟩ (fun hHeld => ?_)
          clear hK K
          refine done_ (by kernel_rfl) ?_
          have hnb38 := NB477_478.out
          have hnc38 := NB478_477.out
          have hnb39 := NB477_479.out
          have hnc39 := NB479_477.out
          have hcz40_0 : w23.cell? ⟨gb477, 0, none⟩ = some (.int .i64 ((rd_T34 t473 x28_1).f0)) := (blk_cell BK477.out 0).trans rfl
          have hcz40_1 : w23.cell? ⟨gb477, 1, none⟩ = some (.int .i64 (((rd_T34 t473 x28_1).f1) / 4)) := (blk_cell BK477.out 1).trans rfl
          have hcz40_2 : w23.cell? ⟨gb477, 2, none⟩ = some (.int .i64 x478002_10) := (blk_cell BK477.out 2).trans rfl
          have hcz40_3 : w23.cell? ⟨gb477, 3, none⟩ = some (.int .i64 x478003_10) := (blk_cell BK477.out 3).trans rfl
          have hcz40_4 : w23.cell? ⟨gb477, 4, none⟩ = some (.int .i64 x478004_10) := (blk_cell BK477.out 4).trans rfl
          have hcz40_5 : w23.cell? ⟨gb477, 5, none⟩ = some (.int .i64 x478005_10) := (blk_cell BK477.out 5).trans rfl
          have hcz40_6 : w23.cell? ⟨gb477, 6, none⟩ = some (.int .i64 x478006_10) := (blk_cell BK477.out 6).trans rfl
          have hfz40_0 := blk_frozen BK477.out 0
          have hfz40_1 := blk_frozen BK477.out 1
          have hfz40_2 := blk_frozen BK477.out 2
          have hfz40_3 := blk_frozen BK477.out 3
          have hfz40_4 := blk_frozen BK477.out 4
          have hfz40_5 := blk_frozen BK477.out 5
          have hfz40_6 := blk_frozen BK477.out 6
          have hnb41 := NB478_479.out
          have hnc41 := NB479_478.out
          have hcz42_0 : w23.cell? ⟨gb478, 0, none⟩ = some (.int .i64 0) := (blk_cell BK478.out 0).trans rfl
          have hcz42_1 : w23.cell? ⟨gb478, 1, none⟩ = some (.int .i64 0) := (blk_cell BK478.out 1).trans rfl
          have hcz42_2 : w23.cell? ⟨gb478, 2, none⟩ = some (.int .i64 0) := (blk_cell BK478.out 2).trans rfl
          have hcz42_3 : w23.cell? ⟨gb478, 3, none⟩ = some (.int .i64 0) := (blk_cell BK478.out 3).trans rfl
          have hcz42_4 : w23.cell? ⟨gb478, 4, none⟩ = some (.int .i64 0) := (blk_cell BK478.out 4).trans rfl
          have hcz42_5 : w23.cell? ⟨gb478, 5, none⟩ = some (.int .i64 0) := (blk_cell BK478.out 5).trans rfl
          have hcz42_6 : w23.cell? ⟨gb478, 6, none⟩ = some (.int .i64 0) := (blk_cell BK478.out 6).trans rfl
          have hfz42_0 := blk_frozen BK478.out 0
          have hfz42_1 := blk_frozen BK478.out 1
          have hfz42_2 := blk_frozen BK478.out 2
          have hfz42_3 := blk_frozen BK478.out 3
          have hfz42_4 := blk_frozen BK478.out 4
          have hfz42_5 := blk_frozen BK478.out 5
          have hfz42_6 := blk_frozen BK478.out 6
          have hcz43_0 : w23.cell? ⟨gb479, 0, none⟩ = some (.int .i64 0) := (blk_cell BK479.out 0).trans rfl
          have hcz43_1 : w23.cell? ⟨gb479, 1, none⟩ = some (.int .i64 0) := (blk_cell BK479.out 1).trans rfl
          have hcz43_2 : w23.cell? ⟨gb479, 2, none⟩ = some (.int .i64 0) := (blk_cell BK479.out 2).trans rfl
          have hcz43_3 : w23.cell? ⟨gb479, 3, none⟩ = some (.int .i64 0) := (blk_cell BK479.out 3).trans rfl
          have hcz43_4 : w23.cell? ⟨gb479, 4, none⟩ = some (.int .i64 0) := (blk_cell BK479.out 4).trans rfl
          have hcz43_5 : w23.cell? ⟨gb479, 5, none⟩ = some (.int .i64 0) := (blk_cell BK479.out 5).trans rfl
          have hcz43_6 : w23.cell? ⟨gb479, 6, none⟩ = some (.int .i64 0) := (blk_cell BK479.out 6).trans rfl
          have hfz43_0 := blk_frozen BK479.out 0
          have hfz43_1 := blk_frozen BK479.out 1
          have hfz43_2 := blk_frozen BK479.out 2
          have hfz43_3 := blk_frozen BK479.out 3
          have hfz43_4 := blk_frozen BK479.out 4
          have hfz43_5 := blk_frozen BK479.out 5
          have hfz43_6 := blk_frozen BK479.out 6
          obtain ⟨Ao44, co44, eo44⟩ := Kd.R_slice HO_12.out
          subst eo44
          obtain ⟨Ao45, co45, eo45⟩ := Kd.R_slice HO_13.out
          subst eo45
          try go_wp2
          have n0_ : Aside0 (Kd.R k34 34 ((((((((((((((((w23.setCell ⟨gb478, 0, none⟩ (.int .i64 ((rd_T34 t473 x28_1).f0))).setCell ⟨gb478, 1, none⟩ (.int .i64 (((rd_T34 t473 x28_1).f1) / 4))).setCell ⟨gb478, 2, none⟩ (.int .i64 x478002_10)).setCell ⟨gb478, 3, none⟩ (.int .i64 x478003_10)).setCell ⟨gb478, 4, none⟩ (.int .i64 x478004_10)).setCell ⟨gb478, 5, none⟩ (.int .i64 x478005_10)).setCell ⟨gb478, 6, none⟩ (.int .i64 x478006_10)).setCell ⟨gb479, 0, none⟩ (.int .i64 ((rd_T34 t473 x28_1).f0))).setCell ⟨gb479, 1, none⟩ (.int .i64 (((rd_T34 t473 x28_1).f1) / 4))).setCell ⟨gb479, 2, none⟩ (.int .i64 x478002_10)).setCell ⟨gb479, 3, none⟩ (.int .i64 x478003_10)).setCell ⟨gb479, 4, none⟩ (.int .i64 x478004_10)).setCell ⟨gb479, 5, none⟩ (.int .i64 x478005_10)).setCell ⟨gb479, 6, none⟩ (.int .i64 x478006_10)).setCell ⟨gb478, 0, none⟩ (.int .i64 (wrap64 (((rd_T34 t473 x28_1).f0) + (Go.bits .and .i64 a1 1023))))).setCell ⟨gb479, 1, none⟩ (.int .i64 (wrap64 ((((rd_T34 t473 x28_1).f1) / 4) + (Int.tmod a2 65536))))) w.heap.size (fun k_ => some k_ ≠ (.slice Ao44 x12_1.length co44 : Value).ownBlock ∧ some k_ ≠ (.slice Ao45 x13_1.length co45 : Value).ownBlock ∧ k_ ≠ gb477 ∧ k_ ≠ gb478 ∧ k_ ≠ gb479) (.slice (some ad476) t473.length co7) t473) := ⟨by (with_reducible repeat first | apply Kd.R_alloc | apply Kd.R_drewN | apply Kd.R_drew); exact Kd.R_mono (Kd.R_far (p := ⟨gb479, 1, none⟩) (Kd.R_far (p := ⟨gb478, 0, none⟩) (Kd.R_far (p := ⟨gb479, 6, none⟩) (Kd.R_far (p := ⟨gb479, 5, none⟩) (Kd.R_far (p := ⟨gb479, 4, none⟩) (Kd.R_far (p := ⟨gb479, 3, none⟩) (Kd.R_far (p := ⟨gb479, 2, none⟩) (Kd.R_far (p := ⟨gb479, 1, none⟩) (Kd.R_far (p := ⟨gb479, 0, none⟩) (Kd.R_far (p := ⟨gb478, 6, none⟩) (Kd.R_far (p := ⟨gb478, 5, none⟩) (Kd.R_far (p := ⟨gb478, 4, none⟩) (Kd.R_far (p := ⟨gb478, 3, none⟩) (Kd.R_far (p := ⟨gb478, 2, none⟩) (Kd.R_far (p := ⟨gb478, 1, none⟩) (Kd.R_far (p := ⟨gb478, 0, none⟩) (Kd.R_mono (Kd.R_mono HO_9.out (fun k_ hk => (⟨hk, hk.2.2.2.1⟩ : _ ∧ k_ ≠ gb478))) (fun k_ hk => (⟨hk, hk.1.2.2.2.2⟩ : _ ∧ k_ ≠ gb479))) (fun _ hk => hk.1.2) (.int .i64 ((rd_T34 t473 x28_1).f0))) (fun _ hk => hk.1.2) (.int .i64 (((rd_T34 t473 x28_1).f1) / 4))) (fun _ hk => hk.1.2) (.int .i64 x478002_10)) (fun _ hk => hk.1.2) (.int .i64 x478003_10)) (fun _ hk => hk.1.2) (.int .i64 x478004_10)) (fun _ hk => hk.1.2) (.int .i64 x478005_10)) (fun _ hk => hk.1.2) (.int .i64 x478006_10)) (fun _ hk => hk.2) (.int .i64 ((rd_T34 t473 x28_1).f0))) (fun _ hk => hk.2) (.int .i64 (((rd_T34 t473 x28_1).f1) / 4))) (fun _ hk => hk.2) (.int .i64 x478002_10)) (fun _ hk => hk.2) (.int .i64 x478003_10)) (fun _ hk => hk.2) (.int .i64 x478004_10)) (fun _ hk => hk.2) (.int .i64 x478005_10)) (fun _ hk => hk.2) (.int .i64 x478006_10)) (fun _ hk => hk.1.2) (.int .i64 (wrap64 (((rd_T34 t473 x28_1).f0) + (Go.bits .and .i64 a1 1023))))) (fun _ hk => hk.2) (.int .i64 (wrap64 ((((rd_T34 t473 x28_1).f1) / 4) + (Int.tmod a2 65536))))) (fun _ hk => ⟨hk.1.1.1, ⟨hk.1.1.2.1, ⟨hk.1.1.2.2.1, ⟨hk.1.1.2.2.2.1, hk.1.1.2.2.2.2⟩⟩⟩⟩)⟩
          have n1_ : Aside0 (Kd.R k34 34 ((((((((((((((((w23.setCell ⟨gb478, 0, none⟩ (.int .i64 ((rd_T34 t473 x28_1).f0))).setCell ⟨gb478, 1, none⟩ (.int .i64 (((rd_T34 t473 x28_1).f1) / 4))).setCell ⟨gb478, 2, none⟩ (.int .i64 x478002_10)).setCell ⟨gb478, 3, none⟩ (.int .i64 x478003_10)).setCell ⟨gb478, 4, none⟩ (.int .i64 x478004_10)).setCell ⟨gb478, 5, none⟩ (.int .i64 x478005_10)).setCell ⟨gb478, 6, none⟩ (.int .i64 x478006_10)).setCell ⟨gb479, 0, none⟩ (.int .i64 ((rd_T34 t473 x28_1).f0))).setCell ⟨gb479, 1, none⟩ (.int .i64 (((rd_T34 t473 x28_1).f1) / 4))).setCell ⟨gb479, 2, none⟩ (.int .i64 x478002_10)).setCell ⟨gb479, 3, none⟩ (.int .i64 x478003_10)).setCell ⟨gb479, 4, none⟩ (.int .i64 x478004_10)).setCell ⟨gb479, 5, none⟩ (.int .i64 x478005_10)).setCell ⟨gb479, 6, none⟩ (.int .i64 x478006_10)).setCell ⟨gb478, 0, none⟩ (.int .i64 (wrap64 (((rd_T34 t473 x28_1).f0) + (Go.bits .and .i64 a1 1023))))).setCell ⟨gb479, 1, none⟩ (.int .i64 (wrap64 ((((rd_T34 t473 x28_1).f1) / 4) + (Int.tmod a2 65536))))) w.heap.size (fun k_ => some k_ ≠ (.slice (some ad476) t473.length co7 : Value).ownBlock ∧ some k_ ≠ (.slice Ao45 x13_1.length co45 : Value).ownBlock ∧ some k_ ≠ (.slice (some ad476) t473.length co7 : Value).ownBlock ∧ k_ ≠ gb477 ∧ k_ ≠ gb478 ∧ k_ ≠ gb479) (.slice Ao44 x12_1.length co44) x12_1) := ⟨by (with_reducible repeat first | apply Kd.R_alloc | apply Kd.R_drewN | apply Kd.R_drew); exact Kd.R_mono (Kd.R_far (p := ⟨gb479, 1, none⟩) (Kd.R_far (p := ⟨gb478, 0, none⟩) (Kd.R_far (p := ⟨gb479, 6, none⟩) (Kd.R_far (p := ⟨gb479, 5, none⟩) (Kd.R_far (p := ⟨gb479, 4, none⟩) (Kd.R_far (p := ⟨gb479, 3, none⟩) (Kd.R_far (p := ⟨gb479, 2, none⟩) (Kd.R_far (p := ⟨gb479, 1, none⟩) (Kd.R_far (p := ⟨gb479, 0, none⟩) (Kd.R_far (p := ⟨gb478, 6, none⟩) (Kd.R_far (p := ⟨gb478, 5, none⟩) (Kd.R_far (p := ⟨gb478, 4, none⟩) (Kd.R_far (p := ⟨gb478, 3, none⟩) (Kd.R_far (p := ⟨gb478, 2, none⟩) (Kd.R_far (p := ⟨gb478, 1, none⟩) (Kd.R_far (p := ⟨gb478, 0, none⟩) (Kd.R_mono (Kd.R_mono HO_12.out (fun k_ hk => (⟨hk, hk.2.2.2.2.1⟩ : _ ∧ k_ ≠ gb478))) (fun k_ hk => (⟨hk, hk.1.2.2.2.2.2⟩ : _ ∧ k_ ≠ gb479))) (fun _ hk => hk.1.2) (.int .i64 ((rd_T34 t473 x28_1).f0))) (fun _ hk => hk.1.2) (.int .i64 (((rd_T34 t473 x28_1).f1) / 4))) (fun _ hk => hk.1.2) (.int .i64 x478002_10)) (fun _ hk => hk.1.2) (.int .i64 x478003_10)) (fun _ hk => hk.1.2) (.int .i64 x478004_10)) (fun _ hk => hk.1.2) (.int .i64 x478005_10)) (fun _ hk => hk.1.2) (.int .i64 x478006_10)) (fun _ hk => hk.2) (.int .i64 ((rd_T34 t473 x28_1).f0))) (fun _ hk => hk.2) (.int .i64 (((rd_T34 t473 x28_1).f1) / 4))) (fun _ hk => hk.2) (.int .i64 x478002_10)) (fun _ hk => hk.2) (.int .i64 x478003_10)) (fun _ hk => hk.2) (.int .i64 x478004_10)) (fun _ hk => hk.2) (.int .i64 x478005_10)) (fun _ hk => hk.2) (.int .i64 x478006_10)) (fun _ hk => hk.1.2) (.int .i64 (wrap64 (((rd_T34 t473 x28_1).f0) + (Go.bits .and .i64 a1 1023))))) (fun _ hk => hk.2) (.int .i64 (wrap64 ((((rd_T34 t473 x28_1).f1) / 4) + (Int.tmod a2 65536))))) (fun _ hk => ⟨hk.1.1.2.2.1, ⟨hk.1.1.1, ⟨hk.1.1.2.1, ⟨hk.1.1.2.2.2.1, ⟨hk.1.1.2.2.2.2.1, hk.1.1.2.2.2.2.2⟩⟩⟩⟩⟩)⟩
          have n2_ : Aside0 (Kd.R k34 34 ((((((((((((((((w23.setCell ⟨gb478, 0, none⟩ (.int .i64 ((rd_T34 t473 x28_1).f0))).setCell ⟨gb478, 1, none⟩ (.int .i64 (((rd_T34 t473 x28_1).f1) / 4))).setCell ⟨gb478, 2, none⟩ (.int .i64 x478002_10)).setCell ⟨gb478, 3, none⟩ (.int .i64 x478003_10)).setCell ⟨gb478, 4, none⟩ (.int .i64 x478004_10)).setCell ⟨gb478, 5, none⟩ (.int .i64 x478005_10)).setCell ⟨gb478, 6, none⟩ (.int .i64 x478006_10)).setCell ⟨gb479, 0, none⟩ (.int .i64 ((rd_T34 t473 x28_1).f0))).setCell ⟨gb479, 1, none⟩ (.int .i64 (((rd_T34 t473 x28_1).f1) / 4))).setCell ⟨gb479, 2, none⟩ (.int .i64 x478002_10)).setCell ⟨gb479, 3, none⟩ (.int .i64 x478003_10)).setCell ⟨gb479, 4, none⟩ (.int .i64 x478004_10)).setCell ⟨gb479, 5, none⟩ (.int .i64 x478005_10)).setCell ⟨gb479, 6, none⟩ (.int .i64 x478006_10)).setCell ⟨gb478, 0, none⟩ (.int .i64 (wrap64 (((rd_T34 t473 x28_1).f0) + (Go.bits .and .i64 a1 1023))))).setCell ⟨gb479, 1, none⟩ (.int .i64 (wrap64 ((((rd_T34 t473 x28_1).f1) / 4) + (Int.tmod a2 65536))))) w.heap.size (fun k_ => some k_ ≠ (.slice (some ad476) t473.length co7 : Value).ownBlock ∧ some k_ ≠ (.slice Ao44 x12_1.length co44 : Value).ownBlock ∧ some k_ ≠ (.slice (some ad476) t473.length co7 : Value).ownBlock ∧ k_ ≠ gb477 ∧ k_ ≠ gb478 ∧ k_ ≠ gb479) (.slice Ao45 x13_1.length co45) x13_1) := ⟨by (with_reducible repeat first | apply Kd.R_alloc | apply Kd.R_drewN | apply Kd.R_drew); exact Kd.R_mono (Kd.R_far (p := ⟨gb479, 1, none⟩) (Kd.R_far (p := ⟨gb478, 0, none⟩) (Kd.R_far (p := ⟨gb479, 6, none⟩) (Kd.R_far (p := ⟨gb479, 5, none⟩) (Kd.R_far (p := ⟨gb479, 4, none⟩) (Kd.R_far (p := ⟨gb479, 3, none⟩) (Kd.R_far (p := ⟨gb479, 2, none⟩) (Kd.R_far (p := ⟨gb479, 1, none⟩) (Kd.R_far (p := ⟨gb479, 0, none⟩) (Kd.R_far (p := ⟨gb478, 6, none⟩) (Kd.R_far (p := ⟨gb478, 5, none⟩) (Kd.R_far (p := ⟨gb478, 4, none⟩) (Kd.R_far (p := ⟨gb478, 3, none⟩) (Kd.R_far (p := ⟨gb478, 2, none⟩) (Kd.R_far (p := ⟨gb478, 1, none⟩) (Kd.R_far (p := ⟨gb478, 0, none⟩) (Kd.R_mono (Kd.R_mono HO_13.out (fun k_ hk => (⟨hk, hk.2.2.2.2.1⟩ : _ ∧ k_ ≠ gb478))) (fun k_ hk => (⟨hk, hk.1.2.2.2.2.2⟩ : _ ∧ k_ ≠ gb479))) (fun _ hk => hk.1.2) (.int .i64 ((rd_T34 t473 x28_1).f0))) (fun _ hk => hk.1.2) (.int .i64 (((rd_T34 t473 x28_1).f1) / 4))) (fun _ hk => hk.1.2) (.int .i64 x478002_10)) (fun _ hk => hk.1.2) (.int .i64 x478003_10)) (fun _ hk => hk.1.2) (.int .i64 x478004_10)) (fun _ hk => hk.1.2) (.int .i64 x478005_10)) (fun _ hk => hk.1.2) (.int .i64 x478006_10)) (fun _ hk => hk.2) (.int .i64 ((rd_T34 t473 x28_1).f0))) (fun _ hk => hk.2) (.int .i64 (((rd_T34 t473 x28_1).f1) / 4))) (fun _ hk => hk.2) (.int .i64 x478002_10)) (fun _ hk => hk.2) (.int .i64 x478003_10)) (fun _ hk => hk.2) (.int .i64 x478004_10)) (fun _ hk => hk.2) (.int .i64 x478005_10)) (fun _ hk => hk.2) (.int .i64 x478006_10)) (fun _ hk => hk.1.2) (.int .i64 (wrap64 (((rd_T34 t473 x28_1).f0) + (Go.bits .and .i64 a1 1023))))) (fun _ hk => hk.2) (.int .i64 (wrap64 ((((rd_T34 t473 x28_1).f1) / 4) + (Int.tmod a2 65536))))) (fun _ hk => ⟨hk.1.1.2.2.1, ⟨hk.1.1.1, ⟨hk.1.1.2.1, ⟨hk.1.1.2.2.2.1, ⟨hk.1.1.2.2.2.2.1, hk.1.1.2.2.2.2.2⟩⟩⟩⟩⟩)⟩
          have n3_ : Aside0 (Kd.R k34 34 ((((((((((((((((w23.setCell ⟨gb478, 0, none⟩ (.int .i64 ((rd_T34 t473 x28_1).f0))).setCell ⟨gb478, 1, none⟩ (.int .i64 (((rd_T34 t473 x28_1).f1) / 4))).setCell ⟨gb478, 2, none⟩ (.int .i64 x478002_10)).setCell ⟨gb478, 3, none⟩ (.int .i64 x478003_10)).setCell ⟨gb478, 4, none⟩ (.int .i64 x478004_10)).setCell ⟨gb478, 5, none⟩ (.int .i64 x478005_10)).setCell ⟨gb478, 6, none⟩ (.int .i64 x478006_10)).setCell ⟨gb479, 0, none⟩ (.int .i64 ((rd_T34 t473 x28_1).f0))).setCell ⟨gb479, 1, none⟩ (.int .i64 (((rd_T34 t473 x28_1).f1) / 4))).setCell ⟨gb479, 2, none⟩ (.int .i64 x478002_10)).setCell ⟨gb479, 3, none⟩ (.int .i64 x478003_10)).setCell ⟨gb479, 4, none⟩ (.int .i64 x478004_10)).setCell ⟨gb479, 5, none⟩ (.int .i64 x478005_10)).setCell ⟨gb479, 6, none⟩ (.int .i64 x478006_10)).setCell ⟨gb478, 0, none⟩ (.int .i64 (wrap64 (((rd_T34 t473 x28_1).f0) + (Go.bits .and .i64 a1 1023))))).setCell ⟨gb479, 1, none⟩ (.int .i64 (wrap64 ((((rd_T34 t473 x28_1).f1) / 4) + (Int.tmod a2 65536))))) w.heap.size (fun k_ => some k_ ≠ (.slice Ao44 x12_1.length co44 : Value).ownBlock ∧ some k_ ≠ (.slice Ao45 x13_1.length co45 : Value).ownBlock ∧ k_ ≠ gb477 ∧ k_ ≠ gb478 ∧ k_ ≠ gb479) (.slice (some ad476) t473.length co7) t473) := ⟨by (with_reducible repeat first | apply Kd.R_alloc | apply Kd.R_drewN | apply Kd.R_drew); exact Kd.R_mono (Kd.R_far (p := ⟨gb479, 1, none⟩) (Kd.R_far (p := ⟨gb478, 0, none⟩) (Kd.R_far (p := ⟨gb479, 6, none⟩) (Kd.R_far (p := ⟨gb479, 5, none⟩) (Kd.R_far (p := ⟨gb479, 4, none⟩) (Kd.R_far (p := ⟨gb479, 3, none⟩) (Kd.R_far (p := ⟨gb479, 2, none⟩) (Kd.R_far (p := ⟨gb479, 1, none⟩) (Kd.R_far (p := ⟨gb479, 0, none⟩) (Kd.R_far (p := ⟨gb478, 6, none⟩) (Kd.R_far (p := ⟨gb478, 5, none⟩) (Kd.R_far (p := ⟨gb478, 4, none⟩) (Kd.R_far (p := ⟨gb478, 3, none⟩) (Kd.R_far (p := ⟨gb478, 2, none⟩) (Kd.R_far (p := ⟨gb478, 1, none⟩) (Kd.R_far (p := ⟨gb478, 0, none⟩) (Kd.R_mono (Kd.R_mono HO_26.out (fun k_ hk => (⟨hk, hk.2.2.2.1⟩ : _ ∧ k_ ≠ gb478))) (fun k_ hk => (⟨hk, hk.1.2.2.2.2⟩ : _ ∧ k_ ≠ gb479))) (fun _ hk => hk.1.2) (.int .i64 ((rd_T34 t473 x28_1).f0))) (fun _ hk => hk.1.2) (.int .i64 (((rd_T34 t473 x28_1).f1) / 4))) (fun _ hk => hk.1.2) (.int .i64 x478002_10)) (fun _ hk => hk.1.2) (.int .i64 x478003_10)) (fun _ hk => hk.1.2) (.int .i64 x478004_10)) (fun _ hk => hk.1.2) (.int .i64 x478005_10)) (fun _ hk => hk.1.2) (.int .i64 x478006_10)) (fun _ hk => hk.2) (.int .i64 ((rd_T34 t473 x28_1).f0))) (fun _ hk => hk.2) (.int .i64 (((rd_T34 t473 x28_1).f1) / 4))) (fun _ hk => hk.2) (.int .i64 x478002_10)) (fun _ hk => hk.2) (.int .i64 x478003_10)) (fun _ hk => hk.2) (.int .i64 x478004_10)) (fun _ hk => hk.2) (.int .i64 x478005_10)) (fun _ hk => hk.2) (.int .i64 x478006_10)) (fun _ hk => hk.1.2) (.int .i64 (wrap64 (((rd_T34 t473 x28_1).f0) + (Go.bits .and .i64 a1 1023))))) (fun _ hk => hk.2) (.int .i64 (wrap64 ((((rd_T34 t473 x28_1).f1) / 4) + (Int.tmod a2 65536))))) (fun _ hk => ⟨hk.1.1.1, ⟨hk.1.1.2.1, ⟨hk.1.1.2.2.1, ⟨hk.1.1.2.2.2.1, hk.1.1.2.2.2.2⟩⟩⟩⟩)⟩
          have n4_ : Aside0 (((((((((((((((((w23.setCell ⟨gb478, 0, none⟩ (.int .i64 ((rd_T34 t473 x28_1).f0))).setCell ⟨gb478, 1, none⟩ (.int .i64 (((rd_T34 t473 x28_1).f1) / 4))).setCell ⟨gb478, 2, none⟩ (.int .i64 x478002_10)).setCell ⟨gb478, 3, none⟩ (.int .i64 x478003_10)).setCell ⟨gb478, 4, none⟩ (.int .i64 x478004_10)).setCell ⟨gb478, 5, none⟩ (.int .i64 x478005_10)).setCell ⟨gb478, 6, none⟩ (.int .i64 x478006_10)).setCell ⟨gb479, 0, none⟩ (.int .i64 ((rd_T34 t473 x28_1).f0))).setCell ⟨gb479, 1, none⟩ (.int .i64 (((rd_T34 t473 x28_1).f1) / 4))).setCell ⟨gb479, 2, none⟩ (.int .i64 x478002_10)).setCell ⟨gb479, 3, none⟩ (.int .i64 x478003_10)).setCell ⟨gb479, 4, none⟩ (.int .i64 x478004_10)).setCell ⟨gb479, 5, none⟩ (.int .i64 x478005_10)).setCell ⟨gb479, 6, none⟩ (.int .i64 x478006_10)).setCell ⟨gb478, 0, none⟩ (.int .i64 (wrap64 (((rd_T34 t473 x28_1).f0) + (Go.bits .and .i64 a1 1023))))).setCell ⟨gb479, 1, none⟩ (.int .i64 (wrap64 ((((rd_T34 t473 x28_1).f1) / 4) + (Int.tmod a2 65536))))).heap[gb477]? = some (.cells #[.int .i64 ((rd_T34 t473 x28_1).f0), .int .i64 (((rd_T34 t473 x28_1).f1) / 4), .int .i64 x478002_10, .int .i64 x478003_10, .int .i64 x478004_10, .int .i64 x478005_10, .int .i64 x478006_10] 34 (0, 0))) := ⟨by (with_reducible repeat first | refine blk_drewN ?_ _ | refine blk_drew ?_ | refine blk_alloc ?_ _); refine blk_far ?_ NB477_479.out _; (with_reducible repeat first | refine blk_drewN ?_ _ | refine blk_drew ?_ | refine blk_alloc ?_ _); refine blk_far ?_ NB477_478.out _; (with_reducible repeat first | refine blk_drewN ?_ _ | refine blk_drew ?_ | refine blk_alloc ?_ _); refine blk_far ?_ NB477_479.out _; (with_reducible repeat first | refine blk_drewN ?_ _ | refine blk_drew ?_ | refine blk_alloc ?_ _); refine blk_far ?_ NB477_479.out _; (with_reducible repeat first | refine blk_drewN ?_ _ | refine blk_drew ?_ | refine blk_alloc ?_ _); refine blk_far ?_ NB477_479.out _; (with_reducible repeat first | refine blk_drewN ?_ _ | refine blk_drew ?_ | refine blk_alloc ?_ _); refine blk_far ?_ NB477_479.out _; (with_reducible repeat first | refine blk_drewN ?_ _ | refine blk_drew ?_ | refine blk_alloc ?_ _); refine blk_far ?_ NB477_479.out _; (with_reducible repeat first | refine blk_drewN ?_ _ | refine blk_drew ?_ | refine blk_alloc ?_ _); refine blk_far ?_ NB477_479.out _; (with_reducible repeat first | refine blk_drewN ?_ _ | refine blk_drew ?_ | refine blk_alloc ?_ _); refine blk_far ?_ NB477_479.out _; (with_reducible repeat first | refine blk_drewN ?_ _ | refine blk_drew ?_ | refine blk_alloc ?_ _); refine blk_far ?_ NB477_478.out _; (with_reducible repeat first | refine blk_drewN ?_ _ | refine blk_drew ?_ | refine blk_alloc ?_ _); refine blk_far ?_ NB477_478.out _; (with_reducible repeat first | refine blk_drewN ?_ _ | refine blk_drew ?_ | refine blk_alloc ?_ _); refine blk_far ?_ NB477_478.out _; (with_reducible repeat first | refine blk_drewN ?_ _ | refine blk_drew ?_ | refine blk_alloc ?_ _); refine blk_far ?_ NB477_478.out _; (with_reducible repeat first | refine blk_drewN ?_ _ | refine blk_drew ?_ | refine blk_alloc ?_ _); refine blk_far ?_ NB477_478.out _; (with_reducible repeat first | refine blk_drewN ?_ _ | refine blk_drew ?_ | refine blk_alloc ?_ _); refine blk_far ?_ NB477_478.out _; (with_reducible repeat first | refine blk_drewN ?_ _ | refine blk_drew ?_ | refine blk_alloc ?_ _); refine blk_far ?_ NB477_478.out _; (with_reducible repeat first | refine blk_drewN ?_ _ | refine blk_drew ?_ | refine blk_alloc ?_ _); exact BK477.out⟩
          have n5_ : Aside0 (((((((((((((((((w23.setCell ⟨gb478, 0, none⟩ (.int .i64 ((rd_T34 t473 x28_1).f0))).setCell ⟨gb478, 1, none⟩ (.int .i64 (((rd_T34 t473 x28_1).f1) / 4))).setCell ⟨gb478, 2, none⟩ (.int .i64 x478002_10)).setCell ⟨gb478, 3, none⟩ (.int .i64 x478003_10)).setCell ⟨gb478, 4, none⟩ (.int .i64 x478004_10)).setCell ⟨gb478, 5, none⟩ (.int .i64 x478005_10)).setCell ⟨gb478, 6, none⟩ (.int .i64 x478006_10)).setCell ⟨gb479, 0, none⟩ (.int .i64 ((rd_T34 t473 x28_1).f0))).setCell ⟨gb479, 1, none⟩ (.int .i64 (((rd_T34 t473 x28_1).f1) / 4))).setCell ⟨gb479, 2, none⟩ (.int .i64 x478002_10)).setCell ⟨gb479, 3, none⟩ (.int .i64 x478003_10)).setCell ⟨gb479, 4, none⟩ (.int .i64 x478004_10)).setCell ⟨gb479, 5, none⟩ (.int .i64 x478005_10)).setCell ⟨gb479, 6, none⟩ (.int .i64 x478006_10)).setCell ⟨gb478, 0, none⟩ (.int .i64 (wrap64 (((rd_T34 t473 x28_1).f0) + (Go.bits .and .i64 a1 1023))))).setCell ⟨gb479, 1, none⟩ (.int .i64 (wrap64 ((((rd_T34 t473 x28_1).f1) / 4) + (Int.tmod a2 65536))))).heap[gb478]? = some (.cells #[.int .i64 (wrap64 (((rd_T34 t473 x28_1).f0) + (Go.bits .and .i64 a1 1023))), .int .i64 (((rd_T34 t473 x28_1).f1) / 4), .int .i64 x478002_10, .int .i64 x478003_10, .int .i64 x478004_10, .int .i64 x478005_10, .int .i64 x478006_10] 34 (0, 0))) := ⟨by (with_reducible repeat first | refine blk_drewN ?_ _ | refine blk_drew ?_ | refine blk_alloc ?_ _); refine blk_far ?_ NB478_479.out _; (with_reducible repeat first | refine blk_drewN ?_ _ | refine blk_drew ?_ | refine blk_alloc ?_ _); refine blk_put (cs := #[.int .i64 ((rd_T34 t473 x28_1).f0), .int .i64 (((rd_T34 t473 x28_1).f1) / 4), .int .i64 x478002_10, .int .i64 x478003_10, .int .i64 x478004_10, .int .i64 x478005_10, .int .i64 x478006_10]) ?_ 0 _ rfl; (with_reducible repeat first | refine blk_drewN ?_ _ | refine blk_drew ?_ | refine blk_alloc ?_ _); refine blk_far ?_ NB478_479.out _; (with_reducible repeat first | refine blk_drewN ?_ _ | refine blk_drew ?_ | refine blk_alloc ?_ _); refine blk_far ?_ NB478_479.out _; (with_reducible repeat first | refine blk_drewN ?_ _ | refine blk_drew ?_ | refine blk_alloc ?_ _); refine blk_far ?_ NB478_479.out _; (with_reducible repeat first | refine blk_drewN ?_ _ | refine blk_drew ?_ | refine blk_alloc ?_ _); refine blk_far ?_ NB478_479.out _; (with_reducible repeat first | refine blk_drewN ?_ _ | refine blk_drew ?_ | refine blk_alloc ?_ _); refine blk_far ?_ NB478_479.out _; (with_reducible repeat first | refine blk_drewN ?_ _ | refine blk_drew ?_ | refine blk_alloc ?_ _); refine blk_far ?_ NB478_479.out _; (with_reducible repeat first | refine blk_drewN ?_ _ | refine blk_drew ?_ | refine blk_alloc ?_ _); refine blk_far ?_ NB478_479.out _; (with_reducible repeat first | refine blk_drewN ?_ _ | refine blk_drew ?_ | refine blk_alloc ?_ _); refine blk_put (cs := #[.int .i64 ((rd_T34 t473 x28_1).f0), .int .i64 (((rd_T34 t473 x28_1).f1) / 4), .int .i64 x478002_10, .int .i64 x478003_10, .int .i64 x478004_10, .int .i64 x478005_10, .int .i64 0]) ?_ 6 _ rfl; (with_reducible repeat first | refine blk_drewN ?_ _ | refine blk_drew ?_ | refine blk_alloc ?_ _); refine blk_put (cs := #[.int .i64 ((rd_T34 t473 x28_1).f0), .int .i64 (((rd_T34 t473 x28_1).f1) / 4), .int .i64 x478002_10, .int .i64 x478003_10, .int .i64 x478004_10, .int .i64 0, .int .i64 0]) ?_ 5 _ rfl; (with_reducible repeat first | refine blk_drewN ?_ _ | refine blk_drew ?_ | refine blk_alloc ?_ _); refine blk_put (cs := #[.int .i64 ((rd_T34 t473 x28_1).f0), .int .i64 (((rd_T34 t473 x28_1).f1) / 4), .int .i64 x478002_10, .int .i64 x478003_10, .int .i64 0, .int .i64 0, .int .i64 0]) ?_ 4 _ rfl; (with_reducible repeat first | refine blk_drewN ?_ _ | refine blk_drew ?_ | refine blk_alloc ?_ _); refine blk_put (cs := #[.int .i64 ((rd_T34 t473 x28_1).f0), .int .i64 (((rd_T34 t473 x28_1).f1) / 4), .int .i64 x478002_10, .int .i64 0, .int .i64 0, .int .i64 0, .int .i64 0]) ?_ 3 _ rfl; (with_reducible repeat first | refine blk_drewN ?_ _ | refine blk_drew ?_ | refine blk_alloc ?_ _); refine blk_put (cs := #[.int .i64 ((rd_T34 t473 x28_1).f0), .int .i64 (((rd_T34 t473 x28_1).f1) / 4), .int .i64 0, .int .i64 0, .int .i64 0, .int .i64 0, .int .i64 0]) ?_ 2 _ rfl; (with_reducible repeat first | refine blk_drewN ?_ _ | refine blk_drew ?_ | refine blk_alloc ?_ _); refine blk_put (cs := #[.int .i64 ((rd_T34 t473 x28_1).f0), .int .i64 0, .int .i64 0, .int .i64 0, .int .i64 0, .int .i64 0, .int .i64 0]) ?_ 1 _ rfl; (with_reducible repeat first | refine blk_drewN ?_ _ | refine blk_drew ?_ | refine blk_alloc ?_ _); refine blk_put (cs := #[.int .i64 0, .int .i64 0, .int .i64 0, .int .i64 0, .int .i64 0, .int .i64 0, .int .i64 0]) ?_ 0 _ rfl; (with_reducible repeat first | refine blk_drewN ?_ _ | refine blk_drew ?_ | refine blk_alloc ?_ _); exact BK478.out⟩
          have n6_ : Aside0 (((((((((((((((((w23.setCell ⟨gb478, 0, none⟩ (.int .i64 ((rd_T34 t473 x28_1).f0))).setCell ⟨gb478, 1, none⟩ (.int .i64 (((rd_T34 t473 x28_1).f1) / 4))).setCell ⟨gb478, 2, none⟩ (.int .i64 x478002_10)).setCell ⟨gb478, 3, none⟩ (.int .i64 x478003_10)).setCell ⟨gb478, 4, none⟩ (.int .i64 x478004_10)).setCell ⟨gb478, 5, none⟩ (.int .i64 x478005_10)).setCell ⟨gb478, 6, none⟩ (.int .i64 x478006_10)).setCell ⟨gb479, 0, none⟩ (.int .i64 ((rd_T34 t473 x28_1).f0))).setCell ⟨gb479, 1, none⟩ (.int .i64 (((rd_T34 t473 x28_1).f1) / 4))).setCell ⟨gb479, 2, none⟩ (.int .i64 x478002_10)).setCell ⟨gb479, 3, none⟩ (.int .i64 x478003_10)).setCell ⟨gb479, 4, none⟩ (.int .i64 x478004_10)).setCell ⟨gb479, 5, none⟩ (.int .i64 x478005_10)).setCell ⟨gb479, 6, none⟩ (.int .i64 x478006_10)).setCell ⟨gb478, 0, none⟩ (.int .i64 (wrap64 (((rd_T34 t473 x28_1).f0) + (Go.bits .and .i64 a1 1023))))).setCell ⟨gb479, 1, none⟩ (.int .i64 (wrap64 ((((rd_T34 t473 x28_1).f1) / 4) + (Int.tmod a2 65536))))).heap[gb479]? = some (.cells #[.int .i64 ((rd_T34 t473 x28_1).f0), .int .i64 (wrap64 ((((rd_T34 t473 x28_1).f1) / 4) + (Int.tmod a2 65536))), .int .i64 x478002_10, .int .i64 x478003_10, .int .i64 x478004_10, .int .i64 x478005_10, .int .i64 x478006_10] 34 (0, 0))) := ⟨by (with_reducible repeat first | refine blk_drewN ?_ _ | refine blk_drew ?_ | refine blk_alloc ?_ _); refine blk_put (cs := #[.int .i64 ((rd_T34 t473 x28_1).f0), .int .i64 (((rd_T34 t473 x28_1).f1) / 4), .int .i64 x478002_10, .int .i64 x478003_10, .int .i64 x478004_10, .int .i64 x478005_10, .int .i64 x478006_10]) ?_ 1 _ rfl; (with_reducible repeat first | refine blk_drewN ?_ _ | refine blk_drew ?_ | refine blk_alloc ?_ _); refine blk_far ?_ NB479_478.out _; (with_reducible repeat first | refine blk_drewN ?_ _ | refine blk_drew ?_ | refine blk_alloc ?_ _); refine blk_put (cs := #[.int .i64 ((rd_T34 t473 x28_1).f0), .int .i64 (((rd_T34 t473 x28_1).f1) / 4), .int .i64 x478002_10, .int .i64 x478003_10, .int .i64 x478004_10, .int .i64 x478005_10, .int .i64 0]) ?_ 6 _ rfl; (with_reducible repeat first | refine blk_drewN ?_ _ | refine blk_drew ?_ | refine blk_alloc ?_ _); refine blk_put (cs := #[.int .i64 ((rd_T34 t473 x28_1).f0), .int .i64 (((rd_T34 t473 x28_1).f1) / 4), .int .i64 x478002_10, .int .i64 x478003_10, .int .i64 x478004_10, .int .i64 0, .int .i64 0]) ?_ 5 _ rfl; (with_reducible repeat first | refine blk_drewN ?_ _ | refine blk_drew ?_ | refine blk_alloc ?_ _); refine blk_put (cs := #[.int .i64 ((rd_T34 t473 x28_1).f0), .int .i64 (((rd_T34 t473 x28_1).f1) / 4), .int .i64 x478002_10, .int .i64 x478003_10, .int .i64 0, .int .i64 0, .int .i64 0]) ?_ 4 _ rfl; (with_reducible repeat first | refine blk_drewN ?_ _ | refine blk_drew ?_ | refine blk_alloc ?_ _); refine blk_put (cs := #[.int .i64 ((rd_T34 t473 x28_1).f0), .int .i64 (((rd_T34 t473 x28_1).f1) / 4), .int .i64 x478002_10, .int .i64 0, .int .i64 0, .int .i64 0, .int .i64 0]) ?_ 3 _ rfl; (with_reducible repeat first | refine blk_drewN ?_ _ | refine blk_drew ?_ | refine blk_alloc ?_ _); refine blk_put (cs := #[.int .i64 ((rd_T34 t473 x28_1).f0), .int .i64 (((rd_T34 t473 x28_1).f1) / 4), .int .i64 0, .int .i64 0, .int .i64 0, .int .i64 0, .int .i64 0]) ?_ 2 _ rfl; (with_reducible repeat first | refine blk_drewN ?_ _ | refine blk_drew ?_ | refine blk_alloc ?_ _); refine blk_put (cs := #[.int .i64 ((rd_T34 t473 x28_1).f0), .int .i64 0, .int .i64 0, .int .i64 0, .int .i64 0, .int .i64 0, .int .i64 0]) ?_ 1 _ rfl; (with_reducible repeat first | refine blk_drewN ?_ _ | refine blk_drew ?_ | refine blk_alloc ?_ _); refine blk_put (cs := #[.int .i64 0, .int .i64 0, .int .i64 0, .int .i64 0, .int .i64 0, .int .i64 0, .int .i64 0]) ?_ 0 _ rfl; (with_reducible repeat first | refine blk_drewN ?_ _ | refine blk_drew ?_ | refine blk_alloc ?_ _); refine blk_far ?_ NB479_478.out _; (with_reducible repeat first | refine blk_drewN ?_ _ | refine blk_drew ?_ | refine blk_alloc ?_ _); refine blk_far ?_ NB479_478.out _; (with_reducible repeat first | refine blk_drewN ?_ _ | refine blk_drew ?_ | refine blk_alloc ?_ _); refine blk_far ?_ NB479_478.out _; (with_reducible repeat first | refine blk_drewN ?_ _ | refine blk_drew ?_ | refine blk_alloc ?_ _); refine blk_far ?_ NB479_478.out _; (with_reducible repeat first | refine blk_drewN ?_ _ | refine blk_drew ?_ | refine blk_alloc ?_ _); refine blk_far ?_ NB479_478.out _; (with_reducible repeat first | refine blk_drewN ?_ _ | refine blk_drew ?_ | refine blk_alloc ?_ _); refine blk_far ?_ NB479_478.out _; (with_reducible repeat first | refine blk_drewN ?_ _ | refine blk_drew ?_ | refine blk_alloc ?_ _); refine blk_far ?_ NB479_478.out _; (with_reducible repeat first | refine blk_drewN ?_ _ | refine blk_drew ?_ | refine blk_alloc ?_ _); exact BK479.out⟩
          have n7_ : Aside0 (Below w.heap.size w ((((((((((((((((w23.setCell ⟨gb478, 0, none⟩ (.int .i64 ((rd_T34 t473 x28_1).f0))).setCell ⟨gb478, 1, none⟩ (.int .i64 (((rd_T34 t473 x28_1).f1) / 4))).setCell ⟨gb478, 2, none⟩ (.int .i64 x478002_10)).setCell ⟨gb478, 3, none⟩ (.int .i64 x478003_10)).setCell ⟨gb478, 4, none⟩ (.int .i64 x478004_10)).setCell ⟨gb478, 5, none⟩ (.int .i64 x478005_10)).setCell ⟨gb478, 6, none⟩ (.int .i64 x478006_10)).setCell ⟨gb479, 0, none⟩ (.int .i64 ((rd_T34 t473 x28_1).f0))).setCell ⟨gb479, 1, none⟩ (.int .i64 (((rd_T34 t473 x28_1).f1) / 4))).setCell ⟨gb479, 2, none⟩ (.int .i64 x478002_10)).setCell ⟨gb479, 3, none⟩ (.int .i64 x478003_10)).setCell ⟨gb479, 4, none⟩ (.int .i64 x478004_10)).setCell ⟨gb479, 5, none⟩ (.int .i64 x478005_10)).setCell ⟨gb479, 6, none⟩ (.int .i64 x478006_10)).setCell ⟨gb478, 0, none⟩ (.int .i64 (wrap64 (((rd_T34 t473 x28_1).f0) + (Go.bits .and .i64 a1 1023))))).setCell ⟨gb479, 1, none⟩ (.int .i64 (wrap64 ((((rd_T34 t473 x28_1).f1) / 4) + (Int.tmod a2 65536)))))) := ⟨by repeat (first | (with_reducible first | exact HB.out | apply below_alloc | apply pw_below_drewN | apply below_drew1 | refine below_set ?_ GE477.out | refine below_set ?_ GE478.out | refine below_set ?_ GE479.out) | exact HB.out)⟩
          (try clear HO_9)
          (try clear HO_12)
          (try clear HO_13)
          (try clear HO_26)
          (try clear BK477)
          (try clear BK478)
          (try clear BK479)
          (try clear HB)
          generalize ((((((((((((((((w23.setCell ⟨gb478, 0, none⟩ (.int .i64 ((rd_T34 t473 x28_1).f0))).setCell ⟨gb478, 1, none⟩ (.int .i64 (((rd_T34 t473 x28_1).f1) / 4))).setCell ⟨gb478, 2, none⟩ (.int .i64 x478002_10)).setCell ⟨gb478, 3, none⟩ (.int .i64 x478003_10)).setCell ⟨gb478, 4, none⟩ (.int .i64 x478004_10)).setCell ⟨gb478, 5, none⟩ (.int .i64 x478005_10)).setCell ⟨gb478, 6, none⟩ (.int .i64 x478006_10)).setCell ⟨gb479, 0, none⟩ (.int .i64 ((rd_T34 t473 x28_1).f0))).setCell ⟨gb479, 1, none⟩ (.int .i64 (((rd_T34 t473 x28_1).f1) / 4))).setCell ⟨gb479, 2, none⟩ (.int .i64 x478002_10)).setCell ⟨gb479, 3, none⟩ (.int .i64 x478003_10)).setCell ⟨gb479, 4, none⟩ (.int .i64 x478004_10)).setCell ⟨gb479, 5, none⟩ (.int .i64 x478005_10)).setCell ⟨gb479, 6, none⟩ (.int .i64 x478006_10)).setCell ⟨gb478, 0, none⟩ (.int .i64 (wrap64 (((rd_T34 t473 x28_1).f0) + (Go.bits .and .i64 a1 1023))))).setCell ⟨gb479, 1, none⟩ (.int .i64 (wrap64 ((((rd_T34 t473 x28_1).f1) / 4) + (Int.tmod a2 65536))))) = w46 at n0_ n1_ n2_ n3_ n4_ n5_ n6_ n7_ ⊢
          have HO_9 := n0_
          have HO_12 := n1_
          have HO_13 := n2_
          have HO_26 := n3_
          have BK477 := n4_
          have BK478 := n5_
          have BK479 := n6_
          have HB := n7_
          clear n0_ n1_ n2_ n3_ n4_ n5_ n6_ n7_
          have n0_ := MS.am (Kd.R_drew HO_9.out)
          have n1_ := MS.am (Kd.R_drew HO_12.out)
          have n2_ := MS.am (Kd.R_drew HO_13.out)
          have n3_ := MS.am (Kd.R_drew HO_26.out)
          have n4_ := MS.am (blk_drew BK477.out)
          have n5_ := MS.am (blk_drew BK478.out)
          have n6_ := MS.am (blk_drew BK479.out)
          have n7_ := MS.am (below_drew1 HB.out)
          clear HO_9
          clear HO_12
          clear HO_13
          clear HO_26
          clear BK477
          clear BK478
          clear BK479
          clear HB
          have HO_9 := n0_
          have HO_12 := n1_
          have HO_13 := n2_
          have HO_26 := n3_
          have BK477 := n4_
          have BK478 := n5_
          have BK479 := n6_
          have HB := n7_
          clear n0_ n1_ n2_ n3_ n4_ n5_ n6_ n7_
          refine start_ (n := 10) (S := fun w' => w'.cell? ⟨gb478, 0, none⟩ = some (.int .i64 (wrap64 (((rd_T34 t473 x28_1).f0) + (Go.bits .and .i64 a1 1023)))) ∧ w'.cell? ⟨gb478, 1, none⟩ = some (.int .i64 (((rd_T34 t473 x28_1).f1) / 4)) ∧ w'.cell? ⟨gb478, 2, none⟩ = some (.int .i64 x478002_10) ∧ w'.cell? ⟨gb478, 3, none⟩ = some (.int .i64 x478003_10) ∧ w'.cell? ⟨gb478, 4, none⟩ = some (.int .i64 x478004_10) ∧ w'.cell? ⟨gb478, 5, none⟩ = some (.int .i64 x478005_10) ∧ w'.cell? ⟨gb478, 6, none⟩ = some (.int .i64 x478006_10) ∧ w'.cell? ⟨gb479, 0, none⟩ = some (.int .i64 ((rd_T34 t473 x28_1).f0)) ∧ w'.cell? ⟨gb479, 1, none⟩ = some (.int .i64 (wrap64 ((((rd_T34 t473 x28_1).f1) / 4) + (Int.tmod a2 65536)))) ∧ w'.cell? ⟨gb479, 2, none⟩ = some (.int .i64 x478002_10) ∧ w'.cell? ⟨gb479, 3, none⟩ = some (.int .i64 x478003_10) ∧ w'.cell? ⟨gb479, 4, none⟩ = some (.int .i64 x478004_10) ∧ w'.cell? ⟨gb479, 5, none⟩ = some (.int .i64 x478005_10) ∧ w'.cell? ⟨gb479, 6, none⟩ = some (.int .i64 x478006_10)) (ds := []) #[false, false, false, false, false, false, false, false, false, false] (by kernel_rfl) rfl rfl ⟨(blk_cell BK478.out 0).trans rfl, (blk_cell BK478.out 1).trans rfl, (blk_cell BK478.out 2).trans rfl, (blk_cell BK478.out 3).trans rfl, (blk_cell BK478.out 4).trans rfl, (blk_cell BK478.out 5).trans rfl, (blk_cell BK478.out 6).trans rfl, (blk_cell BK479.out 0).trans rfl, (blk_cell BK479.out 1).trans rfl, (blk_cell BK479.out 2).trans rfl, (blk_cell BK479.out 3).trans rfl, (blk_cell BK479.out 4).trans rfl, (blk_cell BK479.out 5).trans rfl, (blk_cell BK479.out 6).trans rfl⟩ (fun hHeld => ?_); refine with_tabW mutoscopelaw5_KeyShifts.tab13 mutoscopelaw5_KeyShifts.bits13 (fun HT_ HW_ => ?_)
          generalize w46.drew = w47 at HO_9 HO_12 HO_13 HO_26 BK477 BK478 BK479 HB hHeld ⊢
          refine pure_ (i := 0) (N := some 54) (v := ?_) (a' := ?_) #[true, false, false, false, false, false, false, false, false, false] rfl rfl (any_of HT_.out (by kernel_rfl)) (fun _ _ _ h => h) (Or.inl ⟨by rfl, ?_⟩) ?_ ?_
          rotate_left
          ·intro w'
           go_simp
           with_reducible rfl
          rotate_left
          ·simp only [Act.put, List.setIfInBounds_toArray, List.set_cons_zero, List.set_cons_succ, i64_w, i32_w]
           rfl
          refine pure_ (i := 4) (N := some 58) (v := ?_) (a' := ?_) #[true, false, false, false, true, false, false, false, false, false] rfl rfl (any_of HT_.out (by kernel_rfl)) (fun _ _ _ h => h) (Or.inl ⟨by rfl, ?_⟩) ?_ ?_
          rotate_left
          ·intro w'
           go_simp
           with_reducible rfl
          rotate_left
          ·simp only [Act.put, List.setIfInBounds_toArray, List.set_cons_zero, List.set_cons_succ, i64_w, i32_w]
           rfl
          refine take_ (i := 1) (N := some 55) (v := ?_) (a' := ?_) #[true, true, false, false, true, false, false, false, false, false] rfl rfl (take_ofW HT_.out HW_.out (by kernel_rfl)) (fun _ _ _ h => h) (Or.inl ⟨by rfl, ?_⟩) hHeld ?_ ?_
          rotate_left
          ·rintro w' ⟨s0, s1, s2, s3, s4, s5, s6, s7, s8, s9, s10, s11, s12, s13⟩
           go_simp
           with_reducible rfl
          rotate_left
          ·simp only [Act.put, List.setIfInBounds_toArray, List.set_cons_zero, List.set_cons_succ, i64_w, i32_w]
           rfl
          refine take_ (i := 5) (N := some 59) (v := ?_) (a' := ?_) #[true, true, false, false, true, true, false, false, false, false] rfl rfl (take_ofW HT_.out HW_.out (by kernel_rfl)) (fun _ _ _ h => h) (Or.inl ⟨by rfl, ?_⟩) hHeld ?_ ?_
          rotate_left
          ·rintro w' ⟨s0, s1, s2, s3, s4, s5, s6, s7, s8, s9, s10, s11, s12, s13⟩
           go_simp
           with_reducible rfl
          rotate_left
          ·simp only [Act.put, List.setIfInBounds_toArray, List.set_cons_zero, List.set_cons_succ, i64_w, i32_w]
           rfl
          refine join_ (σ := Value × Value × Value) 3 #[true, true, true, true, true, true, true, false, false, false] (fun s_ => [(56, s_.1), (57, s_.2.1), (60, s_.2.2)]) (fun s_ w' => (w'.cell? ⟨gb478, 0, none⟩ = some (.int .i64 (wrap64 (((rd_T34 t473 x28_1).f0) + (Go.bits .and .i64 a1 1023)))) ∧ w'.cell? ⟨gb478, 1, none⟩ = some (.int .i64 (((rd_T34 t473 x28_1).f1) / 4)) ∧ w'.cell? ⟨gb478, 2, none⟩ = some (.int .i64 x478002_10) ∧ w'.cell? ⟨gb478, 3, none⟩ = some (.int .i64 x478003_10) ∧ w'.cell? ⟨gb478, 4, none⟩ = some (.int .i64 x478004_10) ∧ w'.cell? ⟨gb478, 5, none⟩ = some (.int .i64 x478005_10) ∧ w'.cell? ⟨gb478, 6, none⟩ = some (.int .i64 x478006_10) ∧ w'.cell? ⟨gb479, 0, none⟩ = some (.int .i64 ((rd_T34 t473 x28_1).f0)) ∧ w'.cell? ⟨gb479, 1, none⟩ = some (.int .i64 (wrap64 ((((rd_T34 t473 x28_1).f1) / 4) + (Int.tmod a2 65536)))) ∧ w'.cell? ⟨gb479, 2, none⟩ = some (.int .i64 x478002_10) ∧ w'.cell? ⟨gb479, 3, none⟩ = some (.int .i64 x478003_10) ∧ w'.cell? ⟨gb479, 4, none⟩ = some (.int .i64 x478004_10) ∧ w'.cell? ⟨gb479, 5, none⟩ = some (.int .i64 x478005_10) ∧ w'.cell? ⟨gb479, 6, none⟩ = some (.int .i64 x478006_10)) ∧ (Kd.R k34 34 w' w.heap.size (fun k_ => some k_ ≠ (s_.2.1 : Value).ownBlock ∧ some k_ ≠ (s_.2.2 : Value).ownBlock ∧ some k_ ≠ (.slice Ao45 x13_1.length co45 : Value).ownBlock ∧ some k_ ≠ (.slice (some ad476) t473.length co7 : Value).ownBlock ∧ some k_ ≠ (.slice (some ad476) t473.length co7 : Value).ownBlock ∧ k_ ≠ gb477 ∧ k_ ≠ gb478 ∧ k_ ≠ gb479) s_.1 y480) ∧ (Kd.R k34 34 w' w.heap.size (fun k_ => some k_ ≠ (s_.1 : Value).ownBlock ∧ some k_ ≠ (s_.2.2 : Value).ownBlock ∧ some k_ ≠ (.slice Ao45 x13_1.length co45 : Value).ownBlock ∧ some k_ ≠ (.slice (some ad476) t473.length co7 : Value).ownBlock ∧ some k_ ≠ (.slice (some ad476) t473.length co7 : Value).ownBlock ∧ k_ ≠ gb477 ∧ k_ ≠ gb478 ∧ k_ ≠ gb479) s_.2.1 y483) ∧ (Kd.R k34 34 w' w.heap.size (fun k_ => some k_ ≠ (s_.1 : Value).ownBlock ∧ some k_ ≠ (s_.2.1 : Value).ownBlock ∧ some k_ ≠ (.slice Ao45 x13_1.length co45 : Value).ownBlock ∧ some k_ ≠ (.slice (some ad476) t473.length co7 : Value).ownBlock ∧ some k_ ≠ (.slice (some ad476) t473.length co7 : Value).ownBlock ∧ k_ ≠ gb477 ∧ k_ ≠ gb478 ∧ k_ ≠ gb479) s_.2.2 y486) ∧ (Kd.R k34 34 w' w.heap.size (fun k_ => some k_ ≠ (s_.1 : Value).ownBlock ∧ some k_ ≠ (s_.2.1 : Value).ownBlock ∧ some k_ ≠ (s_.2.2 : Value).ownBlock ∧ some k_ ≠ (.slice (some ad476) t473.length co7 : Value).ownBlock ∧ some k_ ≠ (.slice (some ad476) t473.length co7 : Value).ownBlock ∧ k_ ≠ gb477 ∧ k_ ≠ gb478 ∧ k_ ≠ gb479) (.slice Ao45 x13_1.length co45) x13_1) ∧ (Kd.R k34 34 w' w.heap.size (fun k_ => some k_ ≠ (s_.1 : Value).ownBlock ∧ some k_ ≠ (s_.2.1 : Value).ownBlock ∧ some k_ ≠ (s_.2.2 : Value).ownBlock ∧ some k_ ≠ (.slice Ao45 x13_1.length co45 : Value).ownBlock ∧ k_ ≠ gb477 ∧ k_ ≠ gb478 ∧ k_ ≠ gb479) (.slice (some ad476) t473.length co7) t473) ∧ (Kd.R k34 34 w' w.heap.size (fun k_ => some k_ ≠ (s_.1 : Value).ownBlock ∧ some k_ ≠ (s_.2.1 : Value).ownBlock ∧ some k_ ≠ (s_.2.2 : Value).ownBlock ∧ some k_ ≠ (.slice Ao45 x13_1.length co45 : Value).ownBlock ∧ k_ ≠ gb477 ∧ k_ ≠ gb478 ∧ k_ ≠ gb479) (.slice (some ad476) t473.length co7) t473) ∧ (w'.heap[gb477]? = some (.cells #[.int .i64 ((rd_T34 t473 x28_1).f0), .int .i64 (((rd_T34 t473 x28_1).f1) / 4), .int .i64 x478002_10, .int .i64 x478003_10, .int .i64 x478004_10, .int .i64 x478005_10, .int .i64 x478006_10] 34 (0, 0))) ∧ (w'.heap[gb478]? = some (.cells #[.int .i64 (wrap64 (((rd_T34 t473 x28_1).f0) + (Go.bits .and .i64 a1 1023))), .int .i64 (((rd_T34 t473 x28_1).f1) / 4), .int .i64 x478002_10, .int .i64 x478003_10, .int .i64 x478004_10, .int .i64 x478005_10, .int .i64 x478006_10] 34 (0, 0))) ∧ (w'.heap[gb479]? = some (.cells #[.int .i64 ((rd_T34 t473 x28_1).f0), .int .i64 (wrap64 ((((rd_T34 t473 x28_1).f1) / 4) + (Int.tmod a2 65536))), .int .i64 x478002_10, .int .i64 x478003_10, .int .i64 x478004_10, .int .i64 x478005_10, .int .i64 x478006_10] 34 (0, 0))) ∧ (Below w.heap.size w w')) ?_ ?_
          rotate_left
          ·intro hCont
           refine two_ (i := 2) (j := 6) (Ni := some 56) (Nj := some 60) #[true, true, true, false, true, true, false, false, false, false] #[true, true, false, false, true, true, true, false, false, false] rfl rfl rfl rfl (two_of HT_.out (by kernel_rfl)) (by decide) (by decide) (fun K hK => ?_) (fun K hK => ?_)
           ·skip
            refine Kd.R_lit_step k34 _ 34 ?hg (N := 56) ?hd (xs := ([(⟨wrap64 (((rd_T34 t473 x28_1).f0) + (Go.bits .and .i64 a1 1023)), ((rd_T34 t473 x28_1).f1) / 4, x478002_10, (⟨x478003_10, x478004_10, x478005_10, x478006_10⟩ : S23)⟩ : S34)] : List (S34))) (inner := [.int .i64 (wrap64 (((rd_T34 t473 x28_1).f0) + (Go.bits .and .i64 a1 1023))), .int .i64 (((rd_T34 t473 x28_1).f1) / 4), .int .i64 x478002_10, .int .i64 x478003_10, .int .i64 x478004_10, .int .i64 x478005_10, .int .i64 x478006_10]) (ok := fun _ => True) (okp := fun _ => True) ?hr ?hp (fun _ hk => hk) trivial (Below.refl _ _) (Nat.le_refl _) (by simp) ?_; (case hd => rfl); (case hg => rfl); (case hr => first | (go_simp; done) | (go_simp; rfl)); (case hp => exact (Reps.c7 (show Kd.M k34 _ _ _ (⟨wrap64 (((rd_T34 t473 x28_1).f0) + (Go.bits .and .i64 a1 1023)), ((rd_T34 t473 x28_1).f1) / 4, x478002_10, (⟨x478003_10, x478004_10, x478005_10, x478006_10⟩ : S23)⟩ : S34) [.int .i64 (wrap64 (((rd_T34 t473 x28_1).f0) + (Go.bits .and .i64 a1 1023))), .int .i64 (((rd_T34 t473 x28_1).f1) / 4), .int .i64 x478002_10, .int .i64 x478003_10, .int .i64 x478004_10, .int .i64 x478005_10, .int .i64 x478006_10] from (k34_mkM _ _ _ (⟨wrap64 (((rd_T34 t473 x28_1).f0) + (Go.bits .and .i64 a1 1023)), ((rd_T34 t473 x28_1).f1) / 4, x478002_10, (⟨x478003_10, x478004_10, x478005_10, x478006_10⟩ : S23)⟩ : S34) )) (Reps.none _ _)))
            intro v481 w48 ho49 hb hg_ hnew_
            clear hg_ hnew_
            (first | rw [← Ny480.out] at ho49 | (simp only [Int.reduceToNat] at ho49; rw [← Ny480.out] at ho49))
            have n0_ := MS.am (Kd.R_elder' (by (with_reducible repeat first | apply Kd.R_alloc | apply Kd.R_drewN | apply Kd.R_drew); exact HO_9.out) (Kd.R_base ho49) hb)
            have n1_ := MS.am (Kd.R_elder' (by (with_reducible repeat first | apply Kd.R_alloc | apply Kd.R_drewN | apply Kd.R_drew); exact HO_12.out) (Kd.R_base ho49) hb)
            have n2_ := MS.am (Kd.R_elder' (by (with_reducible repeat first | apply Kd.R_alloc | apply Kd.R_drewN | apply Kd.R_drew); exact HO_13.out) (Kd.R_base ho49) hb)
            have n3_ := MS.am (Kd.R_elder' (by (with_reducible repeat first | apply Kd.R_alloc | apply Kd.R_drewN | apply Kd.R_drew); exact HO_26.out) (Kd.R_base ho49) hb)
            have n4_ := MS.am (Kd.R_lower (Kd.R_newB (Kd.R_newB (Kd.R_newB (Kd.R_new' (Kd.R_new' (Kd.R_new' (Kd.R_new' ho49 (Kd.R_lt (by (with_reducible repeat first | apply Kd.R_alloc | apply Kd.R_drewN | apply Kd.R_drew); exact HO_9.out))) (Kd.R_lt (by (with_reducible repeat first | apply Kd.R_alloc | apply Kd.R_drewN | apply Kd.R_drew); exact HO_12.out))) (Kd.R_lt (by (with_reducible repeat first | apply Kd.R_alloc | apply Kd.R_drewN | apply Kd.R_drew); exact HO_13.out))) (Kd.R_lt (by (with_reducible repeat first | apply Kd.R_alloc | apply Kd.R_drewN | apply Kd.R_drew); exact HO_26.out))) (g := gb477) (o := .cells #[.int .i64 ((rd_T34 t473 x28_1).f0), .int .i64 (((rd_T34 t473 x28_1).f1) / 4), .int .i64 x478002_10, .int .i64 x478003_10, .int .i64 x478004_10, .int .i64 x478005_10, .int .i64 x478006_10] 34 (0, 0)) (by (with_reducible repeat first | refine blk_drewN ?_ _ | refine blk_drew ?_ | refine blk_alloc ?_ _); exact BK477.out)) (g := gb478) (o := .cells #[.int .i64 (wrap64 (((rd_T34 t473 x28_1).f0) + (Go.bits .and .i64 a1 1023))), .int .i64 (((rd_T34 t473 x28_1).f1) / 4), .int .i64 x478002_10, .int .i64 x478003_10, .int .i64 x478004_10, .int .i64 x478005_10, .int .i64 x478006_10] 34 (0, 0)) (by (with_reducible repeat first | refine blk_drewN ?_ _ | refine blk_drew ?_ | refine blk_alloc ?_ _); exact BK478.out)) (g := gb479) (o := .cells #[.int .i64 ((rd_T34 t473 x28_1).f0), .int .i64 (wrap64 ((((rd_T34 t473 x28_1).f1) / 4) + (Int.tmod a2 65536))), .int .i64 x478002_10, .int .i64 x478003_10, .int .i64 x478004_10, .int .i64 x478005_10, .int .i64 x478006_10] 34 (0, 0)) (by (with_reducible repeat first | refine blk_drewN ?_ _ | refine blk_drew ?_ | refine blk_alloc ?_ _); exact BK479.out)) (below_size (by repeat (first | (with_reducible first | exact HB.out | apply below_alloc | apply pw_below_drewN | apply below_drew1 | refine below_set ?_ GE477.out | refine below_set ?_ GE478.out | refine below_set ?_ GE479.out) | exact HB.out))))
            have n5_ := MS.am (blk_below (g := gb477) (o := .cells #[.int .i64 ((rd_T34 t473 x28_1).f0), .int .i64 (((rd_T34 t473 x28_1).f1) / 4), .int .i64 x478002_10, .int .i64 x478003_10, .int .i64 x478004_10, .int .i64 x478005_10, .int .i64 x478006_10] 34 (0, 0)) (by (with_reducible repeat first | refine blk_drewN ?_ _ | refine blk_drew ?_ | refine blk_alloc ?_ _); exact BK477.out) hb)
            have n6_ := MS.am (blk_below (g := gb478) (o := .cells #[.int .i64 (wrap64 (((rd_T34 t473 x28_1).f0) + (Go.bits .and .i64 a1 1023))), .int .i64 (((rd_T34 t473 x28_1).f1) / 4), .int .i64 x478002_10, .int .i64 x478003_10, .int .i64 x478004_10, .int .i64 x478005_10, .int .i64 x478006_10] 34 (0, 0)) (by (with_reducible repeat first | refine blk_drewN ?_ _ | refine blk_drew ?_ | refine blk_alloc ?_ _); exact BK478.out) hb)
            have n7_ := MS.am (blk_below (g := gb479) (o := .cells #[.int .i64 ((rd_T34 t473 x28_1).f0), .int .i64 (wrap64 ((((rd_T34 t473 x28_1).f1) / 4) + (Int.tmod a2 65536))), .int .i64 x478002_10, .int .i64 x478003_10, .int .i64 x478004_10, .int .i64 x478005_10, .int .i64 x478006_10] 34 (0, 0)) (by (with_reducible repeat first | refine blk_drewN ?_ _ | refine blk_drew ?_ | refine blk_alloc ?_ _); exact BK479.out) hb)
            have n8_ := MS.am (below_step (by repeat (first | (with_reducible first | exact HB.out | apply below_alloc | apply pw_below_drewN | apply below_drew1 | refine below_set ?_ GE477.out | refine below_set ?_ GE478.out | refine below_set ?_ GE479.out) | exact HB.out)) hb)
            clear HO_9
            clear HO_12
            clear HO_13
            clear HO_26
            clear BK477
            clear BK478
            clear BK479
            clear HB
            have HO_9 := n0_
            have HO_12 := n1_
            have HO_13 := n2_
            have HO_26 := n3_
            have HO482 := n4_
            have BK477 := n5_
            have BK478 := n6_
            have BK479 := n7_
            have HB := n8_
            clear n0_ n1_ n2_ n3_ n4_ n5_ n6_ n7_ n8_
            clear hb ho49
            obtain ⟨Ao51, co51, eo51⟩ := Kd.R_slice HO482.out
            (first | subst eo51 | (injection eo51 with f1_ f2_ f3_; have f4_ := f1_.symm; have f5_ := f3_.symm; clear f1_ f2_ f3_; subst f4_; subst f5_))
            refine hK.out _ _ ⟨(blk_cell BK478.out 0).trans rfl, (blk_cell BK478.out 1).trans rfl, (blk_cell BK478.out 2).trans rfl, (blk_cell BK478.out 3).trans rfl, (blk_cell BK478.out 4).trans rfl, (blk_cell BK478.out 5).trans rfl, (blk_cell BK478.out 6).trans rfl, (blk_cell BK479.out 0).trans rfl, (blk_cell BK479.out 1).trans rfl, (blk_cell BK479.out 2).trans rfl, (blk_cell BK479.out 3).trans rfl, (blk_cell BK479.out 4).trans rfl, (blk_cell BK479.out 5).trans rfl, (blk_cell BK479.out 6).trans rfl⟩ (fun hHeld => ?_)
            clear hK K
            refine norm_ (a' := ?_) ?_ ?_
            rotate_left
            ·show Act.put _ (some 56) _ = _
             simp only [Act.put, List.setIfInBounds_toArray, List.set_cons_zero, List.set_cons_succ, i64_w, i32_w]
             rfl
            refine two_ (i := 3) (j := 6) (Ni := some 57) (Nj := some 60) #[true, true, true, true, true, true, false, false, false, false] #[true, true, true, false, true, true, true, false, false, false] rfl rfl rfl rfl (two_of HT_.out (by kernel_rfl)) (by decide) (by decide) (fun K hK => ?_) (fun K hK => ?_)
            ·skip
             refine Kd.R_append_rows_step k34 (w0 := w) w.heap.size (by rfl) (.tmp 54) (.tmp 56) 31 34 (.agg #[(.int .i64 0), (.int .i64 0), (.int .i64 0), (.int .i64 0), (.int .i64 0), (.int .i64 0), (.int .i64 0)]) 56 rfl Try.underlying31 info34 rfl (by decide) (by omega) (.slice Ao44 x12_1.length co44) x12_1 y480 _ _ _ (fun k_ => some k_ ≠ (.slice (some ad476) t473.length co7 : Value).ownBlock ∧ some k_ ≠ (.slice Ao45 x13_1.length co45 : Value).ownBlock ∧ some k_ ≠ (.slice (some ad476) t473.length co7 : Value).ownBlock ∧ some k_ ≠ (.slice Ao51 y480.length co51 : Value).ownBlock ∧ k_ ≠ gb477 ∧ k_ ≠ gb478 ∧ k_ ≠ gb479) (fun _ => False) rfl rfl ?aO ?aR (fun _ _ h => h) (fun _ h => h.elim) ?aF ?aB ?aS ?aL ?_
             (case aR => repeat (first | exact (Kd.R_reads' HO482.out).2.2 | (with_reducible refine Kd.C_alloc ?_ _) | (with_reducible refine Kd.C_drewN ?_ _) | (with_reducible refine Kd.C_drew ?_)))
             (case aB => exact (by repeat (first | (with_reducible first | exact HB.out | apply below_alloc | apply pw_below_drewN | apply below_drew1 | refine below_set ?_ GE477.out | refine below_set ?_ GE478.out | refine below_set ?_ GE479.out) | exact HB.out)))
             (case aF => exact (fun k_ hk => ⟨Kd.fresh' (Kd.R_lt (by (with_reducible repeat first | apply Kd.R_alloc | apply Kd.R_drewN | apply Kd.R_drew); exact HO_9.out)) k_ hk, Kd.fresh' (Kd.R_lt (by (with_reducible repeat first | apply Kd.R_alloc | apply Kd.R_drewN | apply Kd.R_drew); exact HO_13.out)) k_ hk, Kd.fresh' (Kd.R_lt (by (with_reducible repeat first | apply Kd.R_alloc | apply Kd.R_drewN | apply Kd.R_drew); exact HO_26.out)) k_ hk, Kd.fresh' (Kd.R_lt (by (with_reducible repeat first | apply Kd.R_alloc | apply Kd.R_drewN | apply Kd.R_drew); exact HO482.out)) k_ hk, Kd.freshB (g := gb477) (o := .cells #[.int .i64 ((rd_T34 t473 x28_1).f0), .int .i64 (((rd_T34 t473 x28_1).f1) / 4), .int .i64 x478002_10, .int .i64 x478003_10, .int .i64 x478004_10, .int .i64 x478005_10, .int .i64 x478006_10] 34 (0, 0)) (by (with_reducible repeat first | refine blk_drewN ?_ _ | refine blk_drew ?_ | refine blk_alloc ?_ _); exact BK477.out) k_ hk, Kd.freshB (g := gb478) (o := .cells #[.int .i64 (wrap64 (((rd_T34 t473 x28_1).f0) + (Go.bits .and .i64 a1 1023))), .int .i64 (((rd_T34 t473 x28_1).f1) / 4), .int .i64 x478002_10, .int .i64 x478003_10, .int .i64 x478004_10, .int .i64 x478005_10, .int .i64 x478006_10] 34 (0, 0)) (by (with_reducible repeat first | refine blk_drewN ?_ _ | refine blk_drew ?_ | refine blk_alloc ?_ _); exact BK478.out) k_ hk, Kd.freshB (g := gb479) (o := .cells #[.int .i64 ((rd_T34 t473 x28_1).f0), .int .i64 (wrap64 ((((rd_T34 t473 x28_1).f1) / 4) + (Int.tmod a2 65536))), .int .i64 x478002_10, .int .i64 x478003_10, .int .i64 x478004_10, .int .i64 x478005_10, .int .i64 x478006_10] 34 (0, 0)) (by (with_reducible repeat first | refine blk_drewN ?_ _ | refine blk_drew ?_ | refine blk_alloc ?_ _); exact BK479.out) k_ hk⟩))
             (case aO => exact (by (with_reducible repeat first | apply Kd.R_alloc | apply Kd.R_drewN | apply Kd.R_drew); exact Kd.R_mono HO_12.out (fun _ hk => ⟨hk.1.1, ⟨hk.1.2.1, ⟨hk.1.2.2.1, ⟨hk.2, ⟨hk.1.2.2.2.1, ⟨hk.1.2.2.2.2.1, hk.1.2.2.2.2.2⟩⟩⟩⟩⟩⟩)))
             (case aS => exact (below_size (by repeat (first | (with_reducible first | exact HB.out | apply below_alloc | apply pw_below_drewN | apply below_drew1 | refine below_set ?_ GE477.out | refine below_set ?_ GE478.out | refine below_set ?_ GE479.out) | exact HB.out))))
             (case aL => have := LMc16.out; omega)
             intro v484 w50 ho hb hg hat
             rw [← Ny483.out] at ho
             have n0_ := MS.am (Kd.R_after (ok := (fun k_ => some k_ ≠ (.slice Ao45 x13_1.length co45 : Value).ownBlock ∧ some k_ ≠ (.slice Ao51 y480.length co51 : Value).ownBlock ∧ k_ ≠ gb477 ∧ k_ ≠ gb478 ∧ k_ ≠ gb479)) (by (with_reducible repeat first | apply Kd.R_alloc | apply Kd.R_drewN | apply Kd.R_drew); exact Kd.R_mono HO_9.out (fun _ hk => ⟨⟨hk.1.2.1, ⟨hk.2, ⟨hk.1.2.2.1, ⟨hk.1.2.2.2.1, hk.1.2.2.2.2⟩⟩⟩⟩, hk.1.1⟩)) hg hat)
             have n1_ := MS.am (Kd.R_after (ok := (fun k_ => some k_ ≠ (.slice (some ad476) t473.length co7 : Value).ownBlock ∧ some k_ ≠ (.slice (some ad476) t473.length co7 : Value).ownBlock ∧ some k_ ≠ (.slice Ao51 y480.length co51 : Value).ownBlock ∧ k_ ≠ gb477 ∧ k_ ≠ gb478 ∧ k_ ≠ gb479)) (by (with_reducible repeat first | apply Kd.R_alloc | apply Kd.R_drewN | apply Kd.R_drew); exact Kd.R_mono HO_13.out (fun _ hk => ⟨⟨hk.1.1, ⟨hk.1.2.2.1, ⟨hk.2, ⟨hk.1.2.2.2.1, ⟨hk.1.2.2.2.2.1, hk.1.2.2.2.2.2⟩⟩⟩⟩⟩, hk.1.2.1⟩)) hg hat)
             have n2_ := MS.am (Kd.R_after (ok := (fun k_ => some k_ ≠ (.slice Ao45 x13_1.length co45 : Value).ownBlock ∧ some k_ ≠ (.slice Ao51 y480.length co51 : Value).ownBlock ∧ k_ ≠ gb477 ∧ k_ ≠ gb478 ∧ k_ ≠ gb479)) (by (with_reducible repeat first | apply Kd.R_alloc | apply Kd.R_drewN | apply Kd.R_drew); exact Kd.R_mono HO_26.out (fun _ hk => ⟨⟨hk.1.2.1, ⟨hk.2, ⟨hk.1.2.2.1, ⟨hk.1.2.2.2.1, hk.1.2.2.2.2⟩⟩⟩⟩, hk.1.1⟩)) hg hat)
             have n3_ := MS.am (blk_grown (g := gb477) (o := .cells #[.int .i64 ((rd_T34 t473 x28_1).f0), .int .i64 (((rd_T34 t473 x28_1).f1) / 4), .int .i64 x478002_10, .int .i64 x478003_10, .int .i64 x478004_10, .int .i64 x478005_10, .int .i64 x478006_10] 34 (0, 0)) (by (with_reducible repeat first | refine blk_drewN ?_ _ | refine blk_drew ?_ | refine blk_alloc ?_ _); exact BK477.out) hg (Kd.R_away HO_12.out (fun _ hk => hk.1.2.2.2.1)))
             have n4_ := MS.am (blk_grown (g := gb478) (o := .cells #[.int .i64 (wrap64 (((rd_T34 t473 x28_1).f0) + (Go.bits .and .i64 a1 1023))), .int .i64 (((rd_T34 t473 x28_1).f1) / 4), .int .i64 x478002_10, .int .i64 x478003_10, .int .i64 x478004_10, .int .i64 x478005_10, .int .i64 x478006_10] 34 (0, 0)) (by (with_reducible repeat first | refine blk_drewN ?_ _ | refine blk_drew ?_ | refine blk_alloc ?_ _); exact BK478.out) hg (Kd.R_away HO_12.out (fun _ hk => hk.1.2.2.2.2.1)))
             have n5_ := MS.am (blk_grown (g := gb479) (o := .cells #[.int .i64 ((rd_T34 t473 x28_1).f0), .int .i64 (wrap64 ((((rd_T34 t473 x28_1).f1) / 4) + (Int.tmod a2 65536))), .int .i64 x478002_10, .int .i64 x478003_10, .int .i64 x478004_10, .int .i64 x478005_10, .int .i64 x478006_10] 34 (0, 0)) (by (with_reducible repeat first | refine blk_drewN ?_ _ | refine blk_drew ?_ | refine blk_alloc ?_ _); exact BK479.out) hg (Kd.R_away HO_12.out (fun _ hk => hk.1.2.2.2.2.2)))
             have n6_ := MS.am (Kd.R_after (ok := (fun k_ => some k_ ≠ (.slice (some ad476) t473.length co7 : Value).ownBlock ∧ some k_ ≠ (.slice Ao45 x13_1.length co45 : Value).ownBlock ∧ some k_ ≠ (.slice (some ad476) t473.length co7 : Value).ownBlock ∧ k_ ≠ gb477 ∧ k_ ≠ gb478 ∧ k_ ≠ gb479)) (by (with_reducible repeat first | apply Kd.R_alloc | apply Kd.R_drewN | apply Kd.R_drew); exact Kd.R_mono HO482.out (fun _ hk => ⟨⟨hk.1.1.1.1.1.1.2, ⟨hk.1.1.1.1.2, ⟨hk.1.1.1.2, ⟨hk.1.1.2, ⟨hk.1.2, hk.2⟩⟩⟩⟩⟩, hk.1.1.1.1.1.2⟩)) hg hat)
             have n7_ := MS.am (hb)
             have n8_ := MS.am (ho)
             clear HO_9
             clear HO_13
             clear HO_26
             clear BK477
             clear BK478
             clear BK479
             clear HO482
             clear HB
             clear HO_12
             have HO_9 := n0_
             have HO_13 := n1_
             have HO_26 := n2_
             have BK477 := n3_
             have BK478 := n4_
             have BK479 := n5_
             have HO482 := n6_
             have HB := n7_
             have HO485 := n8_
             clear n0_ n1_ n2_ n3_ n4_ n5_ n6_ n7_ n8_
             clear ho hb hg hat
             refine hK.out _ _ ⟨(blk_cell BK478.out 0).trans rfl, (blk_cell BK478.out 1).trans rfl, (blk_cell BK478.out 2).trans rfl, (blk_cell BK478.out 3).trans rfl, (blk_cell BK478.out 4).trans rfl, (blk_cell BK478.out 5).trans rfl, (blk_cell BK478.out 6).trans rfl, (blk_cell BK479.out 0).trans rfl, (blk_cell BK479.out 1).trans rfl, (blk_cell BK479.out 2).trans rfl, (blk_cell BK479.out 3).trans rfl, (blk_cell BK479.out 4).trans rfl, (blk_cell BK479.out 5).trans rfl, (blk_cell BK479.out 6).trans rfl⟩ (fun hHeld => ?_)
             clear hK K
             refine norm_ (a' := ?_) ?_ ?_
             rotate_left
             ·show Act.put _ (some 57) _ = _
              simp only [Act.put, List.setIfInBounds_toArray, List.set_cons_zero, List.set_cons_succ, i64_w, i32_w]
              rfl
             refine one_ (i := 6) (N := some 60) #[true, true, true, true, true, true, true, false, false, false] rfl rfl (one_of HT_.out (by kernel_rfl)) (by decide) (fun K hK => ?_)
             refine Kd.R_lit_step k34 _ 34 ?hg (N := 60) ?hd (xs := ([(⟨((rd_T34 t473 x28_1).f0), wrap64 ((((rd_T34 t473 x28_1).f1) / 4) + (Int.tmod a2 65536)), x478002_10, (⟨x478003_10, x478004_10, x478005_10, x478006_10⟩ : S23)⟩ : S34)] : List (S34))) (inner := [.int .i64 ((rd_T34 t473 x28_1).f0), .int .i64 (wrap64 ((((rd_T34 t473 x28_1).f1) / 4) + (Int.tmod a2 65536))), .int .i64 x478002_10, .int .i64 x478003_10, .int .i64 x478004_10, .int .i64 x478005_10, .int .i64 x478006_10]) (ok := fun _ => True) (okp := fun _ => True) ?hr ?hp (fun _ hk => hk) trivial (Below.refl _ _) (Nat.le_refl _) (by simp) ?_; (case hd => rfl); (case hg => rfl); (case hr => first | (go_simp; done) | (go_simp; rfl)); (case hp => exact (Reps.c7 (show Kd.M k34 _ _ _ (⟨((rd_T34 t473 x28_1).f0), wrap64 ((((rd_T34 t473 x28_1).f1) / 4) + (Int.tmod a2 65536)), x478002_10, (⟨x478003_10, x478004_10, x478005_10, x478006_10⟩ : S23)⟩ : S34) [.int .i64 ((rd_T34 t473 x28_1).f0), .int .i64 (wrap64 ((((rd_T34 t473 x28_1).f1) / 4) + (Int.tmod a2 65536))), .int .i64 x478002_10, .int .i64 x478003_10, .int .i64 x478004_10, .int .i64 x478005_10, .int .i64 x478006_10] from (k34_mkM _ _ _ (⟨((rd_T34 t473 x28_1).f0), wrap64 ((((rd_T34 t473 x28_1).f1) / 4) + (Int.tmod a2 65536)), x478002_10, (⟨x478003_10, x478004_10, x478005_10, x478006_10⟩ : S23)⟩ : S34) )) (Reps.none _ _)))
             intro v487 w52 ho53 hb hg_ hnew_
             clear hg_ hnew_
             (first | rw [← Ny486.out] at ho53 | (simp only [Int.reduceToNat] at ho53; rw [← Ny486.out] at ho53))
             have n0_ := MS.am (Kd.R_elder' (by (with_reducible repeat first | apply Kd.R_alloc | apply Kd.R_drewN | apply Kd.R_drew); exact HO_9.out) (Kd.R_base ho53) hb)
             have n1_ := MS.am (Kd.R_elder' (by (with_reducible repeat first | apply Kd.R_alloc | apply Kd.R_drewN | apply Kd.R_drew); exact HO_13.out) (Kd.R_base ho53) hb)
             have n2_ := MS.am (Kd.R_elder' (by (with_reducible repeat first | apply Kd.R_alloc | apply Kd.R_drewN | apply Kd.R_drew); exact HO_26.out) (Kd.R_base ho53) hb)
             have n3_ := MS.am (Kd.R_elder' (by (with_reducible repeat first | apply Kd.R_alloc | apply Kd.R_drewN | apply Kd.R_drew); exact HO482.out) (Kd.R_base ho53) hb)
             have n4_ := MS.am (Kd.R_elder' (by (with_reducible repeat first | apply Kd.R_alloc | apply Kd.R_drewN | apply Kd.R_drew); exact HO485.out) (Kd.R_base ho53) hb)
             have n5_ := MS.am (Kd.R_lower (Kd.R_newB (Kd.R_newB (Kd.R_newB (Kd.R_new' (Kd.R_new' (Kd.R_new' (Kd.R_new' (Kd.R_new' ho53 (Kd.R_lt (by (with_reducible repeat first | apply Kd.R_alloc | apply Kd.R_drewN | apply Kd.R_drew); exact HO_9.out))) (Kd.R_lt (by (with_reducible repeat first | apply Kd.R_alloc | apply Kd.R_drewN | apply Kd.R_drew); exact HO_13.out))) (Kd.R_lt (by (with_reducible repeat first | apply Kd.R_alloc | apply Kd.R_drewN | apply Kd.R_drew); exact HO_26.out))) (Kd.R_lt (by (with_reducible repeat first | apply Kd.R_alloc | apply Kd.R_drewN | apply Kd.R_drew); exact HO482.out))) (Kd.R_lt (by (with_reducible repeat first | apply Kd.R_alloc | apply Kd.R_drewN | apply Kd.R_drew); exact HO485.out))) (g := gb477) (o := .cells #[.int .i64 ((rd_T34 t473 x28_1).f0), .int .i64 (((rd_T34 t473 x28_1).f1) / 4), .int .i64 x478002_10, .int .i64 x478003_10, .int .i64 x478004_10, .int .i64 x478005_10, .int .i64 x478006_10] 34 (0, 0)) (by (with_reducible repeat first | refine blk_drewN ?_ _ | refine blk_drew ?_ | refine blk_alloc ?_ _); exact BK477.out)) (g := gb478) (o := .cells #[.int .i64 (wrap64 (((rd_T34 t473 x28_1).f0) + (Go.bits .and .i64 a1 1023))), .int .i64 (((rd_T34 t473 x28_1).f1) / 4), .int .i64 x478002_10, .int .i64 x478003_10, .int .i64 x478004_10, .int .i64 x478005_10, .int .i64 x478006_10] 34 (0, 0)) (by (with_reducible repeat first | refine blk_drewN ?_ _ | refine blk_drew ?_ | refine blk_alloc ?_ _); exact BK478.out)) (g := gb479) (o := .cells #[.int .i64 ((rd_T34 t473 x28_1).f0), .int .i64 (wrap64 ((((rd_T34 t473 x28_1).f1) / 4) + (Int.tmod a2 65536))), .int .i64 x478002_10, .int .i64 x478003_10, .int .i64 x478004_10, .int .i64 x478005_10, .int .i64 x478006_10] 34 (0, 0)) (by (with_reducible repeat first | refine blk_drewN ?_ _ | refine blk_drew ?_ | refine blk_alloc ?_ _); exact BK479.out)) (below_size (by repeat (first | (with_reducible first | exact HB.out | apply below_alloc | apply pw_below_drewN | apply below_drew1 | refine below_set ?_ GE477.out | refine below_set ?_ GE478.out | refine below_set ?_ GE479.out) | exact HB.out))))
             have n6_ := MS.am (blk_below (g := gb477) (o := .cells #[.int .i64 ((rd_T34 t473 x28_1).f0), .int .i64 (((rd_T34 t473 x28_1).f1) / 4), .int .i64 x478002_10, .int .i64 x478003_10, .int .i64 x478004_10, .int .i64 x478005_10, .int .i64 x478006_10] 34 (0, 0)) (by (with_reducible repeat first | refine blk_drewN ?_ _ | refine blk_drew ?_ | refine blk_alloc ?_ _); exact BK477.out) hb)
             have n7_ := MS.am (blk_below (g := gb478) (o := .cells #[.int .i64 (wrap64 (((rd_T34 t473 x28_1).f0) + (Go.bits .and .i64 a1 1023))), .int .i64 (((rd_T34 t473 x28_1).f1) / 4), .int .i64 x478002_10, .int .i64 x478003_10, .int .i64 x478004_10, .int .i64 x478005_10, .int .i64 x478006_10] 34 (0, 0)) (by (with_reducible repeat first | refine blk_drewN ?_ _ | refine blk_drew ?_ | refine blk_alloc ?_ _); exact BK478.out) hb)
             have n8_ := MS.am (blk_below (g := gb479) (o := .cells #[.int .i64 ((rd_T34 t473 x28_1).f0), .int .i64 (wrap64 ((((rd_T34 t473 x28_1).f1) / 4) + (Int.tmod a2 65536))), .int .i64 x478002_10, .int .i64 x478003_10, .int .i64 x478004_10, .int .i64 x478005_10, .int .i64 x478006_10] 34 (0, 0)) (by (with_reducible repeat first | refine blk_drewN ?_ _ | refine blk_drew ?_ | refine blk_alloc ?_ _); exact BK479.out) hb)
             have n9_ := MS.am (below_step (by repeat (first | (with_reducible first | exact HB.out | apply below_alloc | apply pw_below_drewN | apply below_drew1 | refine below_set ?_ GE477.out | refine below_set ?_ GE478.out | refine below_set ?_ GE479.out) | exact HB.out)) hb)
             clear HO_9
             clear HO_13
             clear HO_26
             clear HO482
             clear HO485
             clear BK477
             clear BK478
             clear BK479
             clear HB
             have HO_9 := n0_
             have HO_13 := n1_
             have HO_26 := n2_
             have HO482 := n3_
             have HO485 := n4_
             have HO488 := n5_
             have BK477 := n6_
             have BK478 := n7_
             have BK479 := n8_
             have HB := n9_
             clear n0_ n1_ n2_ n3_ n4_ n5_ n6_ n7_ n8_ n9_
             clear hb ho53
             refine hK.out _ _ ⟨(blk_cell BK478.out 0).trans rfl, (blk_cell BK478.out 1).trans rfl, (blk_cell BK478.out 2).trans rfl, (blk_cell BK478.out 3).trans rfl, (blk_cell BK478.out 4).trans rfl, (blk_cell BK478.out 5).trans rfl, (blk_cell BK478.out 6).trans rfl, (blk_cell BK479.out 0).trans rfl, (blk_cell BK479.out 1).trans rfl, (blk_cell BK479.out 2).trans rfl, (blk_cell BK479.out 3).trans rfl, (blk_cell BK479.out 4).trans rfl, (blk_cell BK479.out 5).trans rfl, (blk_cell BK479.out 6).trans rfl⟩ (fun hHeld => ?_)
             clear hK K
             refine norm_ (a' := ?_) ?_ ?_
             rotate_left
             ·show Act.put _ (some 60) _ = _
              simp only [Act.put, List.setIfInBounds_toArray, List.set_cons_zero, List.set_cons_succ, i64_w, i32_w]
              rfl
             exact norm_ (by simp only [putAll, Act.put, List.setIfInBounds_toArray, List.set_cons_zero, List.set_cons_succ]) (hCont (.slice Ao51 y480.length co51, v484, v487) _ ⟨hHeld, (by (with_reducible repeat first | apply Kd.R_alloc | apply Kd.R_drewN | apply Kd.R_drew); exact Kd.R_mono HO482.out (fun _ hk => ⟨hk.1.2, ⟨hk.2, ⟨hk.1.1.2.1, ⟨hk.1.1.2.2.1, ⟨hk.1.1.1, ⟨hk.1.1.2.2.2.1, ⟨hk.1.1.2.2.2.2.1, hk.1.1.2.2.2.2.2⟩⟩⟩⟩⟩⟩⟩)), (by (with_reducible repeat first | apply Kd.R_alloc | apply Kd.R_drewN | apply Kd.R_drew); exact Kd.R_mono HO485.out (fun _ hk => ⟨hk.1.2.2.2.1, ⟨hk.2, ⟨hk.1.2.1, ⟨hk.1.2.2.1, ⟨hk.1.1, ⟨hk.1.2.2.2.2.1, ⟨hk.1.2.2.2.2.2.1, hk.1.2.2.2.2.2.2⟩⟩⟩⟩⟩⟩⟩)), (by (with_reducible repeat first | apply Kd.R_alloc | apply Kd.R_drewN | apply Kd.R_drew); exact Kd.R_mono HO488.out (fun _ hk => ⟨hk.1.1.1.1.2, ⟨hk.1.1.1.2, ⟨hk.1.1.1.1.1.1.2, ⟨hk.1.1.1.1.1.2, ⟨hk.1.1.1.1.1.1.1.2, ⟨hk.1.1.2, ⟨hk.1.2, hk.2⟩⟩⟩⟩⟩⟩⟩)), (by (with_reducible repeat first | apply Kd.R_alloc | apply Kd.R_drewN | apply Kd.R_drew); exact Kd.R_mono HO_13.out (fun _ hk => ⟨hk.1.1.2.2.1, ⟨hk.1.2, ⟨hk.2, ⟨hk.1.1.2.1, ⟨hk.1.1.1, ⟨hk.1.1.2.2.2.1, ⟨hk.1.1.2.2.2.2.1, hk.1.1.2.2.2.2.2⟩⟩⟩⟩⟩⟩⟩)), (by (with_reducible repeat first | apply Kd.R_alloc | apply Kd.R_drewN | apply Kd.R_drew); exact Kd.R_mono HO_26.out (fun _ hk => ⟨hk.1.1.2.1, ⟨hk.1.2, ⟨hk.2, ⟨hk.1.1.1, ⟨hk.1.1.2.2.1, ⟨hk.1.1.2.2.2.1, hk.1.1.2.2.2.2⟩⟩⟩⟩⟩⟩)), (by (with_reducible repeat first | apply Kd.R_alloc | apply Kd.R_drewN | apply Kd.R_drew); exact Kd.R_mono HO_9.out (fun _ hk => ⟨hk.1.1.2.1, ⟨hk.1.2, ⟨hk.2, ⟨hk.1.1.1, ⟨hk.1.1.2.2.1, ⟨hk.1.1.2.2.2.1, hk.1.1.2.2.2.2⟩⟩⟩⟩⟩⟩)), (by (with_reducible repeat first | refine blk_drewN ?_ _ | refine blk_drew ?_ | refine blk_alloc ?_ _); exact BK477.out), (by (with_reducible repeat first | refine blk_drewN ?_ _ | refine blk_drew ?_ | refine blk_alloc ?_ _); exact BK478.out), (by (with_reducible repeat first | refine blk_drewN ?_ _ | refine blk_drew ?_ | refine blk_alloc ?_ _); exact BK479.out), (by repeat (first | (with_reducible first | exact HB.out | apply below_alloc | apply pw_below_drewN | apply below_drew1 | refine below_set ?_ GE477.out | refine below_set ?_ GE478.out | refine below_set ?_ GE479.out) | exact HB.out))⟩)
            ·skip
             refine Kd.R_lit_step k34 _ 34 ?hg (N := 60) ?hd (xs := ([(⟨((rd_T34 t473 x28_1).f0), wrap64 ((((rd_T34 t473 x28_1).f1) / 4) + (Int.tmod a2 65536)), x478002_10, (⟨x478003_10, x478004_10, x478005_10, x478006_10⟩ : S23)⟩ : S34)] : List (S34))) (inner := [.int .i64 ((rd_T34 t473 x28_1).f0), .int .i64 (wrap64 ((((rd_T34 t473 x28_1).f1) / 4) + (Int.tmod a2 65536))), .int .i64 x478002_10, .int .i64 x478003_10, .int .i64 x478004_10, .int .i64 x478005_10, .int .i64 x478006_10]) (ok := fun _ => True) (okp := fun _ => True) ?hr ?hp (fun _ hk => hk) trivial (Below.refl _ _) (Nat.le_refl _) (by simp) ?_; (case hd => rfl); (case hg => rfl); (case hr => first | (go_simp; done) | (go_simp; rfl)); (case hp => exact (Reps.c7 (show Kd.M k34 _ _ _ (⟨((rd_T34 t473 x28_1).f0), wrap64 ((((rd_T34 t473 x28_1).f1) / 4) + (Int.tmod a2 65536)), x478002_10, (⟨x478003_10, x478004_10, x478005_10, x478006_10⟩ : S23)⟩ : S34) [.int .i64 ((rd_T34 t473 x28_1).f0), .int .i64 (wrap64 ((((rd_T34 t473 x28_1).f1) / 4) + (Int.tmod a2 65536))), .int .i64 x478002_10, .int .i64 x478003_10, .int .i64 x478004_10, .int .i64 x478005_10, .int .i64 x478006_10] from (k34_mkM _ _ _ (⟨((rd_T34 t473 x28_1).f0), wrap64 ((((rd_T34 t473 x28_1).f1) / 4) + (Int.tmod a2 65536)), x478002_10, (⟨x478003_10, x478004_10, x478005_10, x478006_10⟩ : S23)⟩ : S34) )) (Reps.none _ _)))
             intro v487 w50 ho51 hb hg_ hnew_
             clear hg_ hnew_
             (first | rw [← Ny486.out] at ho51 | (simp only [Int.reduceToNat] at ho51; rw [← Ny486.out] at ho51))
             have n0_ := MS.am (Kd.R_elder' (by (with_reducible repeat first | apply Kd.R_alloc | apply Kd.R_drewN | apply Kd.R_drew); exact HO_9.out) (Kd.R_base ho51) hb)
             have n1_ := MS.am (Kd.R_elder' (by (with_reducible repeat first | apply Kd.R_alloc | apply Kd.R_drewN | apply Kd.R_drew); exact HO_12.out) (Kd.R_base ho51) hb)
             have n2_ := MS.am (Kd.R_elder' (by (with_reducible repeat first | apply Kd.R_alloc | apply Kd.R_drewN | apply Kd.R_drew); exact HO_13.out) (Kd.R_base ho51) hb)
             have n3_ := MS.am (Kd.R_elder' (by (with_reducible repeat first | apply Kd.R_alloc | apply Kd.R_drewN | apply Kd.R_drew); exact HO_26.out) (Kd.R_base ho51) hb)
             have n4_ := MS.am (Kd.R_elder' (by (with_reducible repeat first | apply Kd.R_alloc | apply Kd.R_drewN | apply Kd.R_drew); exact HO482.out) (Kd.R_base ho51) hb)
             have n5_ := MS.am (Kd.R_lower (Kd.R_newB (Kd.R_newB (Kd.R_newB (Kd.R_new' (Kd.R_new' (Kd.R_new' (Kd.R_new' (Kd.R_new' ho51 (Kd.R_lt (by (with_reducible repeat first | apply Kd.R_alloc | apply Kd.R_drewN | apply Kd.R_drew); exact HO_9.out))) (Kd.R_lt (by (with_reducible repeat first | apply Kd.R_alloc | apply Kd.R_drewN | apply Kd.R_drew); exact HO_12.out))) (Kd.R_lt (by (with_reducible repeat first | apply Kd.R_alloc | apply Kd.R_drewN | apply Kd.R_drew); exact HO_13.out))) (Kd.R_lt (by (with_reducible repeat first | apply Kd.R_alloc | apply Kd.R_drewN | apply Kd.R_drew); exact HO_26.out))) (Kd.R_lt (by (with_reducible repeat first | apply Kd.R_alloc | apply Kd.R_drewN | apply Kd.R_drew); exact HO482.out))) (g := gb477) (o := .cells #[.int .i64 ((rd_T34 t473 x28_1).f0), .int .i64 (((rd_T34 t473 x28_1).f1) / 4), .int .i64 x478002_10, .int .i64 x478003_10, .int .i64 x478004_10, .int .i64 x478005_10, .int .i64 x478006_10] 34 (0, 0)) (by (with_reducible repeat first | refine blk_drewN ?_ _ | refine blk_drew ?_ | refine blk_alloc ?_ _); exact BK477.out)) (g := gb478) (o := .cells #[.int .i64 (wrap64 (((rd_T34 t473 x28_1).f0) + (Go.bits .and .i64 a1 1023))), .int .i64 (((rd_T34 t473 x28_1).f1) / 4), .int .i64 x478002_10, .int .i64 x478003_10, .int .i64 x478004_10, .int .i64 x478005_10, .int .i64 x478006_10] 34 (0, 0)) (by (with_reducible repeat first | refine blk_drewN ?_ _ | refine blk_drew ?_ | refine blk_alloc ?_ _); exact BK478.out)) (g := gb479) (o := .cells #[.int .i64 ((rd_T34 t473 x28_1).f0), .int .i64 (wrap64 ((((rd_T34 t473 x28_1).f1) / 4) + (Int.tmod a2 65536))), .int .i64 x478002_10, .int .i64 x478003_10, .int .i64 x478004_10, .int .i64 x478005_10, .int .i64 x478006_10] 34 (0, 0)) (by (with_reducible repeat first | refine blk_drewN ?_ _ | refine blk_drew ?_ | refine blk_alloc ?_ _); exact BK479.out)) (below_size (by repeat (first | (with_reducible first | exact HB.out | apply below_alloc | apply pw_below_drewN | apply below_drew1 | refine below_set ?_ GE477.out | refine below_set ?_ GE478.out | refine below_set ?_ GE479.out) | exact HB.out))))
             have n6_ := MS.am (blk_below (g := gb477) (o := .cells #[.int .i64 ((rd_T34 t473 x28_1).f0), .int .i64 (((rd_T34 t473 x28_1).f1) / 4), .int .i64 x478002_10, .int .i64 x478003_10, .int .i64 x478004_10, .int .i64 x478005_10, .int .i64 x478006_10] 34 (0, 0)) (by (with_reducible repeat first | refine blk_drewN ?_ _ | refine blk_drew ?_ | refine blk_alloc ?_ _); exact BK477.out) hb)
             have n7_ := MS.am (blk_below (g := gb478) (o := .cells #[.int .i64 (wrap64 (((rd_T34 t473 x28_1).f0) + (Go.bits .and .i64 a1 1023))), .int .i64 (((rd_T34 t473 x28_1).f1) / 4), .int .i64 x478002_10, .int .i64 x478003_10, .int .i64 x478004_10, .int .i64 x478005_10, .int .i64 x478006_10] 34 (0, 0)) (by (with_reducible repeat first | refine blk_drewN ?_ _ | refine blk_drew ?_ | refine blk_alloc ?_ _); exact BK478.out) hb)
             have n8_ := MS.am (blk_below (g := gb479) (o := .cells #[.int .i64 ((rd_T34 t473 x28_1).f0), .int .i64 (wrap64 ((((rd_T34 t473 x28_1).f1) / 4) + (Int.tmod a2 65536))), .int .i64 x478002_10, .int .i64 x478003_10, .int .i64 x478004_10, .int .i64 x478005_10, .int .i64 x478006_10] 34 (0, 0)) (by (with_reducible repeat first | refine blk_drewN ?_ _ | refine blk_drew ?_ | refine blk_alloc ?_ _); exact BK479.out) hb)
             have n9_ := MS.am (below_step (by repeat (first | (with_reducible first | exact HB.out | apply below_alloc | apply pw_below_drewN | apply below_drew1 | refine below_set ?_ GE477.out | refine below_set ?_ GE478.out | refine below_set ?_ GE479.out) | exact HB.out)) hb)
             clear HO_9
             clear HO_12
             clear HO_13
             clear HO_26
             clear HO482
             clear BK477
             clear BK478
             clear BK479
             clear HB
             have HO_9 := n0_
             have HO_12 := n1_
             have HO_13 := n2_
             have HO_26 := n3_
             have HO482 := n4_
             have HO488 := n5_
             have BK477 := n6_
             have BK478 := n7_
             have BK479 := n8_
             have HB := n9_
             clear n0_ n1_ n2_ n3_ n4_ n5_ n6_ n7_ n8_ n9_
             clear hb ho51
             obtain ⟨Ao53, co53, eo53⟩ := Kd.R_slice HO482.out
             (first | subst eo53 | (injection eo53 with f1_ f2_ f3_; have f4_ := f1_.symm; have f5_ := f3_.symm; clear f1_ f2_ f3_; subst f4_; subst f5_))
             refine hK.out _ _ ⟨(blk_cell BK478.out 0).trans rfl, (blk_cell BK478.out 1).trans rfl, (blk_cell BK478.out 2).trans rfl, (blk_cell BK478.out 3).trans rfl, (blk_cell BK478.out 4).trans rfl, (blk_cell BK478.out 5).trans rfl, (blk_cell BK478.out 6).trans rfl, (blk_cell BK479.out 0).trans rfl, (blk_cell BK479.out 1).trans rfl, (blk_cell BK479.out 2).trans rfl, (blk_cell BK479.out 3).trans rfl, (blk_cell BK479.out 4).trans rfl, (blk_cell BK479.out 5).trans rfl, (blk_cell BK479.out 6).trans rfl⟩ (fun hHeld => ?_)
             clear hK K
             refine norm_ (a' := ?_) ?_ ?_
             rotate_left
             ·show Act.put _ (some 60) _ = _
              simp only [Act.put, List.setIfInBounds_toArray, List.set_cons_zero, List.set_cons_succ, i64_w, i32_w]
              rfl
             refine one_ (i := 3) (N := some 57) #[true, true, true, true, true, true, true, false, false, false] rfl rfl (one_of HT_.out (by kernel_rfl)) (by decide) (fun K hK => ?_)
             refine Kd.R_append_rows_step k34 (w0 := w) w.heap.size (by rfl) (.tmp 54) (.tmp 56) 31 34 (.agg #[(.int .i64 0), (.int .i64 0), (.int .i64 0), (.int .i64 0), (.int .i64 0), (.int .i64 0), (.int .i64 0)]) 56 rfl Try.underlying31 info34 rfl (by decide) (by omega) (.slice Ao44 x12_1.length co44) x12_1 y480 _ _ _ (fun k_ => some k_ ≠ (.slice (some ad476) t473.length co7 : Value).ownBlock ∧ some k_ ≠ (.slice Ao45 x13_1.length co45 : Value).ownBlock ∧ some k_ ≠ (.slice (some ad476) t473.length co7 : Value).ownBlock ∧ some k_ ≠ (.slice Ao53 y480.length co53 : Value).ownBlock ∧ some k_ ≠ (v487 : Value).ownBlock ∧ k_ ≠ gb477 ∧ k_ ≠ gb478 ∧ k_ ≠ gb479) (fun _ => False) rfl rfl ?aO ?aR (fun _ _ h => h) (fun _ h => h.elim) ?aF ?aB ?aS ?aL ?_
             (case aR => repeat (first | exact (Kd.R_reads' HO482.out).2.2 | (with_reducible refine Kd.C_alloc ?_ _) | (with_reducible refine Kd.C_drewN ?_ _) | (with_reducible refine Kd.C_drew ?_)))
             (case aB => exact (by repeat (first | (with_reducible first | exact HB.out | apply below_alloc | apply pw_below_drewN | apply below_drew1 | refine below_set ?_ GE477.out | refine below_set ?_ GE478.out | refine below_set ?_ GE479.out) | exact HB.out)))
             (case aF => exact (fun k_ hk => ⟨Kd.fresh' (Kd.R_lt (by (with_reducible repeat first | apply Kd.R_alloc | apply Kd.R_drewN | apply Kd.R_drew); exact HO_9.out)) k_ hk, Kd.fresh' (Kd.R_lt (by (with_reducible repeat first | apply Kd.R_alloc | apply Kd.R_drewN | apply Kd.R_drew); exact HO_13.out)) k_ hk, Kd.fresh' (Kd.R_lt (by (with_reducible repeat first | apply Kd.R_alloc | apply Kd.R_drewN | apply Kd.R_drew); exact HO_26.out)) k_ hk, Kd.fresh' (Kd.R_lt (by (with_reducible repeat first | apply Kd.R_alloc | apply Kd.R_drewN | apply Kd.R_drew); exact HO482.out)) k_ hk, Kd.fresh' (Kd.R_lt (by (with_reducible repeat first | apply Kd.R_alloc | apply Kd.R_drewN | apply Kd.R_drew); exact HO488.out)) k_ hk, Kd.freshB (g := gb477) (o := .cells #[.int .i64 ((rd_T34 t473 x28_1).f0), .int .i64 (((rd_T34 t473 x28_1).f1) / 4), .int .i64 x478002_10, .int .i64 x478003_10, .int .i64 x478004_10, .int .i64 x478005_10, .int .i64 x478006_10] 34 (0, 0)) (by (with_reducible repeat first | refine blk_drewN ?_ _ | refine blk_drew ?_ | refine blk_alloc ?_ _); exact BK477.out) k_ hk, Kd.freshB (g := gb478) (o := .cells #[.int .i64 (wrap64 (((rd_T34 t473 x28_1).f0) + (Go.bits .and .i64 a1 1023))), .int .i64 (((rd_T34 t473 x28_1).f1) / 4), .int .i64 x478002_10, .int .i64 x478003_10, .int .i64 x478004_10, .int .i64 x478005_10, .int .i64 x478006_10] 34 (0, 0)) (by (with_reducible repeat first | refine blk_drewN ?_ _ | refine blk_drew ?_ | refine blk_alloc ?_ _); exact BK478.out) k_ hk, Kd.freshB (g := gb479) (o := .cells #[.int .i64 ((rd_T34 t473 x28_1).f0), .int .i64 (wrap64 ((((rd_T34 t473 x28_1).f1) / 4) + (Int.tmod a2 65536))), .int .i64 x478002_10, .int .i64 x478003_10, .int .i64 x478004_10, .int .i64 x478005_10, .int .i64 x478006_10] 34 (0, 0)) (by (with_reducible repeat first | refine blk_drewN ?_ _ | refine blk_drew ?_ | refine blk_alloc ?_ _); exact BK479.out) k_ hk⟩))
             (case aO => exact (by (with_reducible repeat first | apply Kd.R_alloc | apply Kd.R_drewN | apply Kd.R_drew); exact Kd.R_mono HO_12.out (fun _ hk => ⟨hk.1.1.1, ⟨hk.1.1.2.1, ⟨hk.1.1.2.2.1, ⟨hk.1.2, ⟨hk.2, ⟨hk.1.1.2.2.2.1, ⟨hk.1.1.2.2.2.2.1, hk.1.1.2.2.2.2.2⟩⟩⟩⟩⟩⟩⟩)))
             (case aS => exact (below_size (by repeat (first | (with_reducible first | exact HB.out | apply below_alloc | apply pw_below_drewN | apply below_drew1 | refine below_set ?_ GE477.out | refine below_set ?_ GE478.out | refine below_set ?_ GE479.out) | exact HB.out))))
             (case aL => have := LMc16.out; omega)
             intro v484 w52 ho hb hg hat
             rw [← Ny483.out] at ho
             have n0_ := MS.am (Kd.R_after (ok := (fun k_ => some k_ ≠ (.slice Ao45 x13_1.length co45 : Value).ownBlock ∧ some k_ ≠ (.slice Ao53 y480.length co53 : Value).ownBlock ∧ some k_ ≠ (v487 : Value).ownBlock ∧ k_ ≠ gb477 ∧ k_ ≠ gb478 ∧ k_ ≠ gb479)) (by (with_reducible repeat first | apply Kd.R_alloc | apply Kd.R_drewN | apply Kd.R_drew); exact Kd.R_mono HO_9.out (fun _ hk => ⟨⟨hk.1.1.2.1, ⟨hk.1.2, ⟨hk.2, ⟨hk.1.1.2.2.1, ⟨hk.1.1.2.2.2.1, hk.1.1.2.2.2.2⟩⟩⟩⟩⟩, hk.1.1.1⟩)) hg hat)
             have n1_ := MS.am (Kd.R_after (ok := (fun k_ => some k_ ≠ (.slice (some ad476) t473.length co7 : Value).ownBlock ∧ some k_ ≠ (.slice (some ad476) t473.length co7 : Value).ownBlock ∧ some k_ ≠ (.slice Ao53 y480.length co53 : Value).ownBlock ∧ some k_ ≠ (v487 : Value).ownBlock ∧ k_ ≠ gb477 ∧ k_ ≠ gb478 ∧ k_ ≠ gb479)) (by (with_reducible repeat first | apply Kd.R_alloc | apply Kd.R_drewN | apply Kd.R_drew); exact Kd.R_mono HO_13.out (fun _ hk => ⟨⟨hk.1.1.1, ⟨hk.1.1.2.2.1, ⟨hk.1.2, ⟨hk.2, ⟨hk.1.1.2.2.2.1, ⟨hk.1.1.2.2.2.2.1, hk.1.1.2.2.2.2.2⟩⟩⟩⟩⟩⟩, hk.1.1.2.1⟩)) hg hat)
             have n2_ := MS.am (Kd.R_after (ok := (fun k_ => some k_ ≠ (.slice Ao45 x13_1.length co45 : Value).ownBlock ∧ some k_ ≠ (.slice Ao53 y480.length co53 : Value).ownBlock ∧ some k_ ≠ (v487 : Value).ownBlock ∧ k_ ≠ gb477 ∧ k_ ≠ gb478 ∧ k_ ≠ gb479)) (by (with_reducible repeat first | apply Kd.R_alloc | apply Kd.R_drewN | apply Kd.R_drew); exact Kd.R_mono HO_26.out (fun _ hk => ⟨⟨hk.1.1.2.1, ⟨hk.1.2, ⟨hk.2, ⟨hk.1.1.2.2.1, ⟨hk.1.1.2.2.2.1, hk.1.1.2.2.2.2⟩⟩⟩⟩⟩, hk.1.1.1⟩)) hg hat)
             have n3_ := MS.am (blk_grown (g := gb477) (o := .cells #[.int .i64 ((rd_T34 t473 x28_1).f0), .int .i64 (((rd_T34 t473 x28_1).f1) / 4), .int .i64 x478002_10, .int .i64 x478003_10, .int .i64 x478004_10, .int .i64 x478005_10, .int .i64 x478006_10] 34 (0, 0)) (by (with_reducible repeat first | refine blk_drewN ?_ _ | refine blk_drew ?_ | refine blk_alloc ?_ _); exact BK477.out) hg (Kd.R_away HO_12.out (fun _ hk => hk.1.1.2.2.2.1)))
             have n4_ := MS.am (blk_grown (g := gb478) (o := .cells #[.int .i64 (wrap64 (((rd_T34 t473 x28_1).f0) + (Go.bits .and .i64 a1 1023))), .int .i64 (((rd_T34 t473 x28_1).f1) / 4), .int .i64 x478002_10, .int .i64 x478003_10, .int .i64 x478004_10, .int .i64 x478005_10, .int .i64 x478006_10] 34 (0, 0)) (by (with_reducible repeat first | refine blk_drewN ?_ _ | refine blk_drew ?_ | refine blk_alloc ?_ _); exact BK478.out) hg (Kd.R_away HO_12.out (fun _ hk => hk.1.1.2.2.2.2.1)))
             have n5_ := MS.am (blk_grown (g := gb479) (o := .cells #[.int .i64 ((rd_T34 t473 x28_1).f0), .int .i64 (wrap64 ((((rd_T34 t473 x28_1).f1) / 4) + (Int.tmod a2 65536))), .int .i64 x478002_10, .int .i64 x478003_10, .int .i64 x478004_10, .int .i64 x478005_10, .int .i64 x478006_10] 34 (0, 0)) (by (with_reducible repeat first | refine blk_drewN ?_ _ | refine blk_drew ?_ | refine blk_alloc ?_ _); exact BK479.out) hg (Kd.R_away HO_12.out (fun _ hk => hk.1.1.2.2.2.2.2)))
             have n6_ := MS.am (Kd.R_after (ok := (fun k_ => some k_ ≠ (.slice (some ad476) t473.length co7 : Value).ownBlock ∧ some k_ ≠ (.slice Ao45 x13_1.length co45 : Value).ownBlock ∧ some k_ ≠ (.slice (some ad476) t473.length co7 : Value).ownBlock ∧ some k_ ≠ (v487 : Value).ownBlock ∧ k_ ≠ gb477 ∧ k_ ≠ gb478 ∧ k_ ≠ gb479)) (by (with_reducible repeat first | apply Kd.R_alloc | apply Kd.R_drewN | apply Kd.R_drew); exact Kd.R_mono HO482.out (fun _ hk => ⟨⟨hk.1.1.1.1.1.1.1.2, ⟨hk.1.1.1.1.1.2, ⟨hk.1.1.1.1.2, ⟨hk.2, ⟨hk.1.1.1.2, ⟨hk.1.1.2, hk.1.2⟩⟩⟩⟩⟩⟩, hk.1.1.1.1.1.1.2⟩)) hg hat)
             have n7_ := MS.am (Kd.R_after (ok := (fun k_ => some k_ ≠ (.slice (some ad476) t473.length co7 : Value).ownBlock ∧ some k_ ≠ (.slice Ao45 x13_1.length co45 : Value).ownBlock ∧ some k_ ≠ (.slice (some ad476) t473.length co7 : Value).ownBlock ∧ some k_ ≠ (.slice Ao53 y480.length co53 : Value).ownBlock ∧ k_ ≠ gb477 ∧ k_ ≠ gb478 ∧ k_ ≠ gb479)) (by (with_reducible repeat first | apply Kd.R_alloc | apply Kd.R_drewN | apply Kd.R_drew); exact Kd.R_mono HO488.out (fun _ hk => ⟨⟨hk.1.1.1.1.1.1.1.2, ⟨hk.1.1.1.1.1.2, ⟨hk.1.1.1.1.2, ⟨hk.1.1.1.2, ⟨hk.1.1.2, ⟨hk.1.2, hk.2⟩⟩⟩⟩⟩⟩, hk.1.1.1.1.1.1.2⟩)) hg hat)
             have n8_ := MS.am (hb)
             have n9_ := MS.am (ho)
             clear HO_9
             clear HO_13
             clear HO_26
             clear BK477
             clear BK478
             clear BK479
             clear HO482
             clear HO488
             clear HB
             clear HO_12
             have HO_9 := n0_
             have HO_13 := n1_
             have HO_26 := n2_
             have BK477 := n3_
             have BK478 := n4_
             have BK479 := n5_
             have HO482 := n6_
             have HO488 := n7_
             have HB := n8_
             have HO485 := n9_
             clear n0_ n1_ n2_ n3_ n4_ n5_ n6_ n7_ n8_ n9_
             clear ho hb hg hat
             refine hK.out _ _ ⟨(blk_cell BK478.out 0).trans rfl, (blk_cell BK478.out 1).trans rfl, (blk_cell BK478.out 2).trans rfl, (blk_cell BK478.out 3).trans rfl, (blk_cell BK478.out 4).trans rfl, (blk_cell BK478.out 5).trans rfl, (blk_cell BK478.out 6).trans rfl, (blk_cell BK479.out 0).trans rfl, (blk_cell BK479.out 1).trans rfl, (blk_cell BK479.out 2).trans rfl, (blk_cell BK479.out 3).trans rfl, (blk_cell BK479.out 4).trans rfl, (blk_cell BK479.out 5).trans rfl, (blk_cell BK479.out 6).trans rfl⟩ (fun hHeld => ?_)
             clear hK K
             refine norm_ (a' := ?_) ?_ ?_
             rotate_left
             ·show Act.put _ (some 57) _ = _
              simp only [Act.put, List.setIfInBounds_toArray, List.set_cons_zero, List.set_cons_succ, i64_w, i32_w]
              rfl
             exact norm_ (by simp only [putAll, Act.put, List.setIfInBounds_toArray, List.set_cons_zero, List.set_cons_succ]) (hCont (.slice Ao53 y480.length co53, v484, v487) _ ⟨hHeld, (by (with_reducible repeat first | apply Kd.R_alloc | apply Kd.R_drewN | apply Kd.R_drew); exact Kd.R_mono HO482.out (fun _ hk => ⟨hk.2, ⟨hk.1.2.2.2.1, ⟨hk.1.2.1, ⟨hk.1.2.2.1, ⟨hk.1.1, ⟨hk.1.2.2.2.2.1, ⟨hk.1.2.2.2.2.2.1, hk.1.2.2.2.2.2.2⟩⟩⟩⟩⟩⟩⟩)), (by (with_reducible repeat first | apply Kd.R_alloc | apply Kd.R_drewN | apply Kd.R_drew); exact Kd.R_mono HO485.out (fun _ hk => ⟨hk.2.2.2.1, ⟨hk.2.2.2.2.1, ⟨hk.2.1, ⟨hk.2.2.1, ⟨hk.1, ⟨hk.2.2.2.2.2.1, ⟨hk.2.2.2.2.2.2.1, hk.2.2.2.2.2.2.2⟩⟩⟩⟩⟩⟩⟩)), (by (with_reducible repeat first | apply Kd.R_alloc | apply Kd.R_drewN | apply Kd.R_drew); exact Kd.R_mono HO488.out (fun _ hk => ⟨hk.1.2.2.2.1, ⟨hk.2, ⟨hk.1.2.1, ⟨hk.1.2.2.1, ⟨hk.1.1, ⟨hk.1.2.2.2.2.1, ⟨hk.1.2.2.2.2.2.1, hk.1.2.2.2.2.2.2⟩⟩⟩⟩⟩⟩⟩)), (by (with_reducible repeat first | apply Kd.R_alloc | apply Kd.R_drewN | apply Kd.R_drew); exact Kd.R_mono HO_13.out (fun _ hk => ⟨hk.1.2.2.1, ⟨hk.2, ⟨hk.1.2.2.2.1, ⟨hk.1.2.1, ⟨hk.1.1, ⟨hk.1.2.2.2.2.1, ⟨hk.1.2.2.2.2.2.1, hk.1.2.2.2.2.2.2⟩⟩⟩⟩⟩⟩⟩)), (by (with_reducible repeat first | apply Kd.R_alloc | apply Kd.R_drewN | apply Kd.R_drew); exact Kd.R_mono HO_26.out (fun _ hk => ⟨hk.1.2.1, ⟨hk.2, ⟨hk.1.2.2.1, ⟨hk.1.1, ⟨hk.1.2.2.2.1, ⟨hk.1.2.2.2.2.1, hk.1.2.2.2.2.2⟩⟩⟩⟩⟩⟩)), (by (with_reducible repeat first | apply Kd.R_alloc | apply Kd.R_drewN | apply Kd.R_drew); exact Kd.R_mono HO_9.out (fun _ hk => ⟨hk.1.2.1, ⟨hk.2, ⟨hk.1.2.2.1, ⟨hk.1.1, ⟨hk.1.2.2.2.1, ⟨hk.1.2.2.2.2.1, hk.1.2.2.2.2.2⟩⟩⟩⟩⟩⟩)), (by (with_reducible repeat first | refine blk_drewN ?_ _ | refine blk_drew ?_ | refine blk_alloc ?_ _); exact BK477.out), (by (with_reducible repeat first | refine blk_drewN ?_ _ | refine blk_drew ?_ | refine blk_alloc ?_ _); exact BK478.out), (by (with_reducible repeat first | refine blk_drewN ?_ _ | refine blk_drew ?_ | refine blk_alloc ?_ _); exact BK479.out), (by repeat (first | (with_reducible first | exact HB.out | apply below_alloc | apply pw_below_drewN | apply below_drew1 | refine below_set ?_ GE477.out | refine below_set ?_ GE478.out | refine below_set ?_ GE479.out) | exact HB.out))⟩)
           ·skip
            refine Kd.R_lit_step k34 _ 34 ?hg (N := 60) ?hd (xs := ([(⟨((rd_T34 t473 x28_1).f0), wrap64 ((((rd_T34 t473 x28_1).f1) / 4) + (Int.tmod a2 65536)), x478002_10, (⟨x478003_10, x478004_10, x478005_10, x478006_10⟩ : S23)⟩ : S34)] : List (S34))) (inner := [.int .i64 ((rd_T34 t473 x28_1).f0), .int .i64 (wrap64 ((((rd_T34 t473 x28_1).f1) / 4) + (Int.tmod a2 65536))), .int .i64 x478002_10, .int .i64 x478003_10, .int .i64 x478004_10, .int .i64 x478005_10, .int .i64 x478006_10]) (ok := fun _ => True) (okp := fun _ => True) ?hr ?hp (fun _ hk => hk) trivial (Below.refl _ _) (Nat.le_refl _) (by simp) ?_; (case hd => rfl); (case hg => rfl); (case hr => first | (go_simp; done) | (go_simp; rfl)); (case hp => exact (Reps.c7 (show Kd.M k34 _ _ _ (⟨((rd_T34 t473 x28_1).f0), wrap64 ((((rd_T34 t473 x28_1).f1) / 4) + (Int.tmod a2 65536)), x478002_10, (⟨x478003_10, x478004_10, x478005_10, x478006_10⟩ : S23)⟩ : S34) [.int .i64 ((rd_T34 t473 x28_1).f0), .int .i64 (wrap64 ((((rd_T34 t473 x28_1).f1) / 4) + (Int.tmod a2 65536))), .int .i64 x478002_10, .int .i64 x478003_10, .int .i64 x478004_10, .int .i64 x478005_10, .int .i64 x478006_10] from (k34_mkM _ _ _ (⟨((rd_T34 t473 x28_1).f0), wrap64 ((((rd_T34 t473 x28_1).f1) / 4) + (Int.tmod a2 65536)), x478002_10, (⟨x478003_10, x478004_10, x478005_10, x478006_10⟩ : S23)⟩ : S34) )) (Reps.none _ _)))
            intro v487 w48 ho49 hb hg_ hnew_
            clear hg_ hnew_
            (first | rw [← Ny486.out] at ho49 | (simp only [Int.reduceToNat] at ho49; rw [← Ny486.out] at ho49))
            have n0_ := MS.am (Kd.R_elder' (by (with_reducible repeat first | apply Kd.R_alloc | apply Kd.R_drewN | apply Kd.R_drew); exact HO_9.out) (Kd.R_base ho49) hb)
            have n1_ := MS.am (Kd.R_elder' (by (with_reducible repeat first | apply Kd.R_alloc | apply Kd.R_drewN | apply Kd.R_drew); exact HO_12.out) (Kd.R_base ho49) hb)
            have n2_ := MS.am (Kd.R_elder' (by (with_reducible repeat first | apply Kd.R_alloc | apply Kd.R_drewN | apply Kd.R_drew); exact HO_13.out) (Kd.R_base ho49) hb)
            have n3_ := MS.am (Kd.R_elder' (by (with_reducible repeat first | apply Kd.R_alloc | apply Kd.R_drewN | apply Kd.R_drew); exact HO_26.out) (Kd.R_base ho49) hb)
            have n4_ := MS.am (Kd.R_lower (Kd.R_newB (Kd.R_newB (Kd.R_newB (Kd.R_new' (Kd.R_new' (Kd.R_new' (Kd.R_new' ho49 (Kd.R_lt (by (with_reducible repeat first | apply Kd.R_alloc | apply Kd.R_drewN | apply Kd.R_drew); exact HO_9.out))) (Kd.R_lt (by (with_reducible repeat first | apply Kd.R_alloc | apply Kd.R_drewN | apply Kd.R_drew); exact HO_12.out))) (Kd.R_lt (by (with_reducible repeat first | apply Kd.R_alloc | apply Kd.R_drewN | apply Kd.R_drew); exact HO_13.out))) (Kd.R_lt (by (with_reducible repeat first | apply Kd.R_alloc | apply Kd.R_drewN | apply Kd.R_drew); exact HO_26.out))) (g := gb477) (o := .cells #[.int .i64 ((rd_T34 t473 x28_1).f0), .int .i64 (((rd_T34 t473 x28_1).f1) / 4), .int .i64 x478002_10, .int .i64 x478003_10, .int .i64 x478004_10, .int .i64 x478005_10, .int .i64 x478006_10] 34 (0, 0)) (by (with_reducible repeat first | refine blk_drewN ?_ _ | refine blk_drew ?_ | refine blk_alloc ?_ _); exact BK477.out)) (g := gb478) (o := .cells #[.int .i64 (wrap64 (((rd_T34 t473 x28_1).f0) + (Go.bits .and .i64 a1 1023))), .int .i64 (((rd_T34 t473 x28_1).f1) / 4), .int .i64 x478002_10, .int .i64 x478003_10, .int .i64 x478004_10, .int .i64 x478005_10, .int .i64 x478006_10] 34 (0, 0)) (by (with_reducible repeat first | refine blk_drewN ?_ _ | refine blk_drew ?_ | refine blk_alloc ?_ _); exact BK478.out)) (g := gb479) (o := .cells #[.int .i64 ((rd_T34 t473 x28_1).f0), .int .i64 (wrap64 ((((rd_T34 t473 x28_1).f1) / 4) + (Int.tmod a2 65536))), .int .i64 x478002_10, .int .i64 x478003_10, .int .i64 x478004_10, .int .i64 x478005_10, .int .i64 x478006_10] 34 (0, 0)) (by (with_reducible repeat first | refine blk_drewN ?_ _ | refine blk_drew ?_ | refine blk_alloc ?_ _); exact BK479.out)) (below_size (by repeat (first | (with_reducible first | exact HB.out | apply below_alloc | apply pw_below_drewN | apply below_drew1 | refine below_set ?_ GE477.out | refine below_set ?_ GE478.out | refine below_set ?_ GE479.out) | exact HB.out))))
            have n5_ := MS.am (blk_below (g := gb477) (o := .cells #[.int .i64 ((rd_T34 t473 x28_1).f0), .int .i64 (((rd_T34 t473 x28_1).f1) / 4), .int .i64 x478002_10, .int .i64 x478003_10, .int .i64 x478004_10, .int .i64 x478005_10, .int .i64 x478006_10] 34 (0, 0)) (by (with_reducible repeat first | refine blk_drewN ?_ _ | refine blk_drew ?_ | refine blk_alloc ?_ _); exact BK477.out) hb)
            have n6_ := MS.am (blk_below (g := gb478) (o := .cells #[.int .i64 (wrap64 (((rd_T34 t473 x28_1).f0) + (Go.bits .and .i64 a1 1023))), .int .i64 (((rd_T34 t473 x28_1).f1) / 4), .int .i64 x478002_10, .int .i64 x478003_10, .int .i64 x478004_10, .int .i64 x478005_10, .int .i64 x478006_10] 34 (0, 0)) (by (with_reducible repeat first | refine blk_drewN ?_ _ | refine blk_drew ?_ | refine blk_alloc ?_ _); exact BK478.out) hb)
            have n7_ := MS.am (blk_below (g := gb479) (o := .cells #[.int .i64 ((rd_T34 t473 x28_1).f0), .int .i64 (wrap64 ((((rd_T34 t473 x28_1).f1) / 4) + (Int.tmod a2 65536))), .int .i64 x478002_10, .int .i64 x478003_10, .int .i64 x478004_10, .int .i64 x478005_10, .int .i64 x478006_10] 34 (0, 0)) (by (with_reducible repeat first | refine blk_drewN ?_ _ | refine blk_drew ?_ | refine blk_alloc ?_ _); exact BK479.out) hb)
            have n8_ := MS.am (below_step (by repeat (first | (with_reducible first | exact HB.out | apply below_alloc | apply pw_below_drewN | apply below_drew1 | refine below_set ?_ GE477.out | refine below_set ?_ GE478.out | refine below_set ?_ GE479.out) | exact HB.out)) hb)
            clear HO_9
            clear HO_12
            clear HO_13
            clear HO_26
            clear BK477
            clear BK478
            clear BK479
            clear HB
            have HO_9 := n0_
            have HO_12 := n1_
            have HO_13 := n2_
            have HO_26 := n3_
            have HO488 := n4_
            have BK477 := n5_
            have BK478 := n6_
            have BK479 := n7_
            have HB := n8_
            clear n0_ n1_ n2_ n3_ n4_ n5_ n6_ n7_ n8_
            clear hb ho49
            refine hK.out _ _ ⟨(blk_cell BK478.out 0).trans rfl, (blk_cell BK478.out 1).trans rfl, (blk_cell BK478.out 2).trans rfl, (blk_cell BK478.out 3).trans rfl, (blk_cell BK478.out 4).trans rfl, (blk_cell BK478.out 5).trans rfl, (blk_cell BK478.out 6).trans rfl, (blk_cell BK479.out 0).trans rfl, (blk_cell BK479.out 1).trans rfl, (blk_cell BK479.out 2).trans rfl, (blk_cell BK479.out 3).trans rfl, (blk_cell BK479.out 4).trans rfl, (blk_cell BK479.out 5).trans rfl, (blk_cell BK479.out 6).trans rfl⟩ (fun hHeld => ?_)
            clear hK K
            refine norm_ (a' := ?_) ?_ ?_
            rotate_left
            ·show Act.put _ (some 60) _ = _
             simp only [Act.put, List.setIfInBounds_toArray, List.set_cons_zero, List.set_cons_succ, i64_w, i32_w]
             rfl
            refine one_ (i := 2) (N := some 56) #[true, true, true, false, true, true, true, false, false, false] rfl rfl (one_of HT_.out (by kernel_rfl)) (by decide) (fun K hK => ?_)
            refine Kd.R_lit_step k34 _ 34 ?hg (N := 56) ?hd (xs := ([(⟨wrap64 (((rd_T34 t473 x28_1).f0) + (Go.bits .and .i64 a1 1023)), ((rd_T34 t473 x28_1).f1) / 4, x478002_10, (⟨x478003_10, x478004_10, x478005_10, x478006_10⟩ : S23)⟩ : S34)] : List (S34))) (inner := [.int .i64 (wrap64 (((rd_T34 t473 x28_1).f0) + (Go.bits .and .i64 a1 1023))), .int .i64 (((rd_T34 t473 x28_1).f1) / 4), .int .i64 x478002_10, .int .i64 x478003_10, .int .i64 x478004_10, .int .i64 x478005_10, .int .i64 x478006_10]) (ok := fun _ => True) (okp := fun _ => True) ?hr ?hp (fun _ hk => hk) trivial (Below.refl _ _) (Nat.le_refl _) (by simp) ?_; (case hd => rfl); (case hg => rfl); (case hr => first | (go_simp; done) | (go_simp; rfl)); (case hp => exact (Reps.c7 (show Kd.M k34 _ _ _ (⟨wrap64 (((rd_T34 t473 x28_1).f0) + (Go.bits .and .i64 a1 1023)), ((rd_T34 t473 x28_1).f1) / 4, x478002_10, (⟨x478003_10, x478004_10, x478005_10, x478006_10⟩ : S23)⟩ : S34) [.int .i64 (wrap64 (((rd_T34 t473 x28_1).f0) + (Go.bits .and .i64 a1 1023))), .int .i64 (((rd_T34 t473 x28_1).f1) / 4), .int .i64 x478002_10, .int .i64 x478003_10, .int .i64 x478004_10, .int .i64 x478005_10, .int .i64 x478006_10] from (k34_mkM _ _ _ (⟨wrap64 (((rd_T34 t473 x28_1).f0) + (Go.bits .and .i64 a1 1023)), ((rd_T34 t473 x28_1).f1) / 4, x478002_10, (⟨x478003_10, x478004_10, x478005_10, x478006_10⟩ : S23)⟩ : S34) )) (Reps.none _ _)))
            intro v481 w50 ho51 hb hg_ hnew_
            clear hg_ hnew_
            (first | rw [← Ny480.out] at ho51 | (simp only [Int.reduceToNat] at ho51; rw [← Ny480.out] at ho51))
            have n0_ := MS.am (Kd.R_elder' (by (with_reducible repeat first | apply Kd.R_alloc | apply Kd.R_drewN | apply Kd.R_drew); exact HO_9.out) (Kd.R_base ho51) hb)
            have n1_ := MS.am (Kd.R_elder' (by (with_reducible repeat first | apply Kd.R_alloc | apply Kd.R_drewN | apply Kd.R_drew); exact HO_12.out) (Kd.R_base ho51) hb)
            have n2_ := MS.am (Kd.R_elder' (by (with_reducible repeat first | apply Kd.R_alloc | apply Kd.R_drewN | apply Kd.R_drew); exact HO_13.out) (Kd.R_base ho51) hb)
            have n3_ := MS.am (Kd.R_elder' (by (with_reducible repeat first | apply Kd.R_alloc | apply Kd.R_drewN | apply Kd.R_drew); exact HO_26.out) (Kd.R_base ho51) hb)
            have n4_ := MS.am (Kd.R_elder' (by (with_reducible repeat first | apply Kd.R_alloc | apply Kd.R_drewN | apply Kd.R_drew); exact HO488.out) (Kd.R_base ho51) hb)
            have n5_ := MS.am (Kd.R_lower (Kd.R_newB (Kd.R_newB (Kd.R_newB (Kd.R_new' (Kd.R_new' (Kd.R_new' (Kd.R_new' (Kd.R_new' ho51 (Kd.R_lt (by (with_reducible repeat first | apply Kd.R_alloc | apply Kd.R_drewN | apply Kd.R_drew); exact HO_9.out))) (Kd.R_lt (by (with_reducible repeat first | apply Kd.R_alloc | apply Kd.R_drewN | apply Kd.R_drew); exact HO_12.out))) (Kd.R_lt (by (with_reducible repeat first | apply Kd.R_alloc | apply Kd.R_drewN | apply Kd.R_drew); exact HO_13.out))) (Kd.R_lt (by (with_reducible repeat first | apply Kd.R_alloc | apply Kd.R_drewN | apply Kd.R_drew); exact HO_26.out))) (Kd.R_lt (by (with_reducible repeat first | apply Kd.R_alloc | apply Kd.R_drewN | apply Kd.R_drew); exact HO488.out))) (g := gb477) (o := .cells #[.int .i64 ((rd_T34 t473 x28_1).f0), .int .i64 (((rd_T34 t473 x28_1).f1) / 4), .int .i64 x478002_10, .int .i64 x478003_10, .int .i64 x478004_10, .int .i64 x478005_10, .int .i64 x478006_10] 34 (0, 0)) (by (with_reducible repeat first | refine blk_drewN ?_ _ | refine blk_drew ?_ | refine blk_alloc ?_ _); exact BK477.out)) (g := gb478) (o := .cells #[.int .i64 (wrap64 (((rd_T34 t473 x28_1).f0) + (Go.bits .and .i64 a1 1023))), .int .i64 (((rd_T34 t473 x28_1).f1) / 4), .int .i64 x478002_10, .int .i64 x478003_10, .int .i64 x478004_10, .int .i64 x478005_10, .int .i64 x478006_10] 34 (0, 0)) (by (with_reducible repeat first | refine blk_drewN ?_ _ | refine blk_drew ?_ | refine blk_alloc ?_ _); exact BK478.out)) (g := gb479) (o := .cells #[.int .i64 ((rd_T34 t473 x28_1).f0), .int .i64 (wrap64 ((((rd_T34 t473 x28_1).f1) / 4) + (Int.tmod a2 65536))), .int .i64 x478002_10, .int .i64 x478003_10, .int .i64 x478004_10, .int .i64 x478005_10, .int .i64 x478006_10] 34 (0, 0)) (by (with_reducible repeat first | refine blk_drewN ?_ _ | refine blk_drew ?_ | refine blk_alloc ?_ _); exact BK479.out)) (below_size (by repeat (first | (with_reducible first | exact HB.out | apply below_alloc | apply pw_below_drewN | apply below_drew1 | refine below_set ?_ GE477.out | refine below_set ?_ GE478.out | refine below_set ?_ GE479.out) | exact HB.out))))
            have n6_ := MS.am (blk_below (g := gb477) (o := .cells #[.int .i64 ((rd_T34 t473 x28_1).f0), .int .i64 (((rd_T34 t473 x28_1).f1) / 4), .int .i64 x478002_10, .int .i64 x478003_10, .int .i64 x478004_10, .int .i64 x478005_10, .int .i64 x478006_10] 34 (0, 0)) (by (with_reducible repeat first | refine blk_drewN ?_ _ | refine blk_drew ?_ | refine blk_alloc ?_ _); exact BK477.out) hb)
            have n7_ := MS.am (blk_below (g := gb478) (o := .cells #[.int .i64 (wrap64 (((rd_T34 t473 x28_1).f0) + (Go.bits .and .i64 a1 1023))), .int .i64 (((rd_T34 t473 x28_1).f1) / 4), .int .i64 x478002_10, .int .i64 x478003_10, .int .i64 x478004_10, .int .i64 x478005_10, .int .i64 x478006_10] 34 (0, 0)) (by (with_reducible repeat first | refine blk_drewN ?_ _ | refine blk_drew ?_ | refine blk_alloc ?_ _); exact BK478.out) hb)
            have n8_ := MS.am (blk_below (g := gb479) (o := .cells #[.int .i64 ((rd_T34 t473 x28_1).f0), .int .i64 (wrap64 ((((rd_T34 t473 x28_1).f1) / 4) + (Int.tmod a2 65536))), .int .i64 x478002_10, .int .i64 x478003_10, .int .i64 x478004_10, .int .i64 x478005_10, .int .i64 x478006_10] 34 (0, 0)) (by (with_reducible repeat first | refine blk_drewN ?_ _ | refine blk_drew ?_ | refine blk_alloc ?_ _); exact BK479.out) hb)
            have n9_ := MS.am (below_step (by repeat (first | (with_reducible first | exact HB.out | apply below_alloc | apply pw_below_drewN | apply below_drew1 | refine below_set ?_ GE477.out | refine below_set ?_ GE478.out | refine below_set ?_ GE479.out) | exact HB.out)) hb)
            clear HO_9
            clear HO_12
            clear HO_13
            clear HO_26
            clear HO488
            clear BK477
            clear BK478
            clear BK479
            clear HB
            have HO_9 := n0_
            have HO_12 := n1_
            have HO_13 := n2_
            have HO_26 := n3_
            have HO488 := n4_
            have HO482 := n5_
            have BK477 := n6_
            have BK478 := n7_
            have BK479 := n8_
            have HB := n9_
            clear n0_ n1_ n2_ n3_ n4_ n5_ n6_ n7_ n8_ n9_
            clear hb ho51
            obtain ⟨Ao53, co53, eo53⟩ := Kd.R_slice HO482.out
            (first | subst eo53 | (injection eo53 with f1_ f2_ f3_; have f4_ := f1_.symm; have f5_ := f3_.symm; clear f1_ f2_ f3_; subst f4_; subst f5_))
            refine hK.out _ _ ⟨(blk_cell BK478.out 0).trans rfl, (blk_cell BK478.out 1).trans rfl, (blk_cell BK478.out 2).trans rfl, (blk_cell BK478.out 3).trans rfl, (blk_cell BK478.out 4).trans rfl, (blk_cell BK478.out 5).trans rfl, (blk_cell BK478.out 6).trans rfl, (blk_cell BK479.out 0).trans rfl, (blk_cell BK479.out 1).trans rfl, (blk_cell BK479.out 2).trans rfl, (blk_cell BK479.out 3).trans rfl, (blk_cell BK479.out 4).trans rfl, (blk_cell BK479.out 5).trans rfl, (blk_cell BK479.out 6).trans rfl⟩ (fun hHeld => ?_)
            clear hK K
            refine norm_ (a' := ?_) ?_ ?_
            rotate_left
            ·show Act.put _ (some 56) _ = _
             simp only [Act.put, List.setIfInBounds_toArray, List.set_cons_zero, List.set_cons_succ, i64_w, i32_w]
             rfl
            refine one_ (i := 3) (N := some 57) #[true, true, true, true, true, true, true, false, false, false] rfl rfl (one_of HT_.out (by kernel_rfl)) (by decide) (fun K hK => ?_)
            refine Kd.R_append_rows_step k34 (w0 := w) w.heap.size (by rfl) (.tmp 54) (.tmp 56) 31 34 (.agg #[(.int .i64 0), (.int .i64 0), (.int .i64 0), (.int .i64 0), (.int .i64 0), (.int .i64 0), (.int .i64 0)]) 56 rfl Try.underlying31 info34 rfl (by decide) (by omega) (.slice Ao44 x12_1.length co44) x12_1 y480 _ _ _ (fun k_ => some k_ ≠ (.slice (some ad476) t473.length co7 : Value).ownBlock ∧ some k_ ≠ (.slice Ao45 x13_1.length co45 : Value).ownBlock ∧ some k_ ≠ (.slice (some ad476) t473.length co7 : Value).ownBlock ∧ some k_ ≠ (v487 : Value).ownBlock ∧ some k_ ≠ (.slice Ao53 y480.length co53 : Value).ownBlock ∧ k_ ≠ gb477 ∧ k_ ≠ gb478 ∧ k_ ≠ gb479) (fun _ => False) rfl rfl ?aO ?aR (fun _ _ h => h) (fun _ h => h.elim) ?aF ?aB ?aS ?aL ?_
            (case aR => repeat (first | exact (Kd.R_reads' HO482.out).2.2 | (with_reducible refine Kd.C_alloc ?_ _) | (with_reducible refine Kd.C_drewN ?_ _) | (with_reducible refine Kd.C_drew ?_)))
            (case aB => exact (by repeat (first | (with_reducible first | exact HB.out | apply below_alloc | apply pw_below_drewN | apply below_drew1 | refine below_set ?_ GE477.out | refine below_set ?_ GE478.out | refine below_set ?_ GE479.out) | exact HB.out)))
            (case aF => exact (fun k_ hk => ⟨Kd.fresh' (Kd.R_lt (by (with_reducible repeat first | apply Kd.R_alloc | apply Kd.R_drewN | apply Kd.R_drew); exact HO_9.out)) k_ hk, Kd.fresh' (Kd.R_lt (by (with_reducible repeat first | apply Kd.R_alloc | apply Kd.R_drewN | apply Kd.R_drew); exact HO_13.out)) k_ hk, Kd.fresh' (Kd.R_lt (by (with_reducible repeat first | apply Kd.R_alloc | apply Kd.R_drewN | apply Kd.R_drew); exact HO_26.out)) k_ hk, Kd.fresh' (Kd.R_lt (by (with_reducible repeat first | apply Kd.R_alloc | apply Kd.R_drewN | apply Kd.R_drew); exact HO488.out)) k_ hk, Kd.fresh' (Kd.R_lt (by (with_reducible repeat first | apply Kd.R_alloc | apply Kd.R_drewN | apply Kd.R_drew); exact HO482.out)) k_ hk, Kd.freshB (g := gb477) (o := .cells #[.int .i64 ((rd_T34 t473 x28_1).f0), .int .i64 (((rd_T34 t473 x28_1).f1) / 4), .int .i64 x478002_10, .int .i64 x478003_10, .int .i64 x478004_10, .int .i64 x478005_10, .int .i64 x478006_10] 34 (0, 0)) (by (with_reducible repeat first | refine blk_drewN ?_ _ | refine blk_drew ?_ | refine blk_alloc ?_ _); exact BK477.out) k_ hk, Kd.freshB (g := gb478) (o := .cells #[.int .i64 (wrap64 (((rd_T34 t473 x28_1).f0) + (Go.bits .and .i64 a1 1023))), .int .i64 (((rd_T34 t473 x28_1).f1) / 4), .int .i64 x478002_10, .int .i64 x478003_10, .int .i64 x478004_10, .int .i64 x478005_10, .int .i64 x478006_10] 34 (0, 0)) (by (with_reducible repeat first | refine blk_drewN ?_ _ | refine blk_drew ?_ | refine blk_alloc ?_ _); exact BK478.out) k_ hk, Kd.freshB (g := gb479) (o := .cells #[.int .i64 ((rd_T34 t473 x28_1).f0), .int .i64 (wrap64 ((((rd_T34 t473 x28_1).f1) / 4) + (Int.tmod a2 65536))), .int .i64 x478002_10, .int .i64 x478003_10, .int .i64 x478004_10, .int .i64 x478005_10, .int .i64 x478006_10] 34 (0, 0)) (by (with_reducible repeat first | refine blk_drewN ?_ _ | refine blk_drew ?_ | refine blk_alloc ?_ _); exact BK479.out) k_ hk⟩))
            (case aO => exact (by (with_reducible repeat first | apply Kd.R_alloc | apply Kd.R_drewN | apply Kd.R_drew); exact Kd.R_mono HO_12.out (fun _ hk => ⟨hk.1.1.1, ⟨hk.1.1.2.1, ⟨hk.1.1.2.2.1, ⟨hk.1.2, ⟨hk.2, ⟨hk.1.1.2.2.2.1, ⟨hk.1.1.2.2.2.2.1, hk.1.1.2.2.2.2.2⟩⟩⟩⟩⟩⟩⟩)))
            (case aS => exact (below_size (by repeat (first | (with_reducible first | exact HB.out | apply below_alloc | apply pw_below_drewN | apply below_drew1 | refine below_set ?_ GE477.out | refine below_set ?_ GE478.out | refine below_set ?_ GE479.out) | exact HB.out))))
            (case aL => have := LMc16.out; omega)
            intro v484 w52 ho hb hg hat
            rw [← Ny483.out] at ho
            have n0_ := MS.am (Kd.R_after (ok := (fun k_ => some k_ ≠ (.slice Ao45 x13_1.length co45 : Value).ownBlock ∧ some k_ ≠ (v487 : Value).ownBlock ∧ some k_ ≠ (.slice Ao53 y480.length co53 : Value).ownBlock ∧ k_ ≠ gb477 ∧ k_ ≠ gb478 ∧ k_ ≠ gb479)) (by (with_reducible repeat first | apply Kd.R_alloc | apply Kd.R_drewN | apply Kd.R_drew); exact Kd.R_mono HO_9.out (fun _ hk => ⟨⟨hk.1.1.2.1, ⟨hk.1.2, ⟨hk.2, ⟨hk.1.1.2.2.1, ⟨hk.1.1.2.2.2.1, hk.1.1.2.2.2.2⟩⟩⟩⟩⟩, hk.1.1.1⟩)) hg hat)
            have n1_ := MS.am (Kd.R_after (ok := (fun k_ => some k_ ≠ (.slice (some ad476) t473.length co7 : Value).ownBlock ∧ some k_ ≠ (.slice (some ad476) t473.length co7 : Value).ownBlock ∧ some k_ ≠ (v487 : Value).ownBlock ∧ some k_ ≠ (.slice Ao53 y480.length co53 : Value).ownBlock ∧ k_ ≠ gb477 ∧ k_ ≠ gb478 ∧ k_ ≠ gb479)) (by (with_reducible repeat first | apply Kd.R_alloc | apply Kd.R_drewN | apply Kd.R_drew); exact Kd.R_mono HO_13.out (fun _ hk => ⟨⟨hk.1.1.1, ⟨hk.1.1.2.2.1, ⟨hk.1.2, ⟨hk.2, ⟨hk.1.1.2.2.2.1, ⟨hk.1.1.2.2.2.2.1, hk.1.1.2.2.2.2.2⟩⟩⟩⟩⟩⟩, hk.1.1.2.1⟩)) hg hat)
            have n2_ := MS.am (Kd.R_after (ok := (fun k_ => some k_ ≠ (.slice Ao45 x13_1.length co45 : Value).ownBlock ∧ some k_ ≠ (v487 : Value).ownBlock ∧ some k_ ≠ (.slice Ao53 y480.length co53 : Value).ownBlock ∧ k_ ≠ gb477 ∧ k_ ≠ gb478 ∧ k_ ≠ gb479)) (by (with_reducible repeat first | apply Kd.R_alloc | apply Kd.R_drewN | apply Kd.R_drew); exact Kd.R_mono HO_26.out (fun _ hk => ⟨⟨hk.1.1.2.1, ⟨hk.1.2, ⟨hk.2, ⟨hk.1.1.2.2.1, ⟨hk.1.1.2.2.2.1, hk.1.1.2.2.2.2⟩⟩⟩⟩⟩, hk.1.1.1⟩)) hg hat)
            have n3_ := MS.am (blk_grown (g := gb477) (o := .cells #[.int .i64 ((rd_T34 t473 x28_1).f0), .int .i64 (((rd_T34 t473 x28_1).f1) / 4), .int .i64 x478002_10, .int .i64 x478003_10, .int .i64 x478004_10, .int .i64 x478005_10, .int .i64 x478006_10] 34 (0, 0)) (by (with_reducible repeat first | refine blk_drewN ?_ _ | refine blk_drew ?_ | refine blk_alloc ?_ _); exact BK477.out) hg (Kd.R_away HO_12.out (fun _ hk => hk.1.1.2.2.2.1)))
            have n4_ := MS.am (blk_grown (g := gb478) (o := .cells #[.int .i64 (wrap64 (((rd_T34 t473 x28_1).f0) + (Go.bits .and .i64 a1 1023))), .int .i64 (((rd_T34 t473 x28_1).f1) / 4), .int .i64 x478002_10, .int .i64 x478003_10, .int .i64 x478004_10, .int .i64 x478005_10, .int .i64 x478006_10] 34 (0, 0)) (by (with_reducible repeat first | refine blk_drewN ?_ _ | refine blk_drew ?_ | refine blk_alloc ?_ _); exact BK478.out) hg (Kd.R_away HO_12.out (fun _ hk => hk.1.1.2.2.2.2.1)))
            have n5_ := MS.am (blk_grown (g := gb479) (o := .cells #[.int .i64 ((rd_T34 t473 x28_1).f0), .int .i64 (wrap64 ((((rd_T34 t473 x28_1).f1) / 4) + (Int.tmod a2 65536))), .int .i64 x478002_10, .int .i64 x478003_10, .int .i64 x478004_10, .int .i64 x478005_10, .int .i64 x478006_10] 34 (0, 0)) (by (with_reducible repeat first | refine blk_drewN ?_ _ | refine blk_drew ?_ | refine blk_alloc ?_ _); exact BK479.out) hg (Kd.R_away HO_12.out (fun _ hk => hk.1.1.2.2.2.2.2)))
            have n6_ := MS.am (Kd.R_after (ok := (fun k_ => some k_ ≠ (.slice (some ad476) t473.length co7 : Value).ownBlock ∧ some k_ ≠ (.slice Ao45 x13_1.length co45 : Value).ownBlock ∧ some k_ ≠ (.slice (some ad476) t473.length co7 : Value).ownBlock ∧ some k_ ≠ (.slice Ao53 y480.length co53 : Value).ownBlock ∧ k_ ≠ gb477 ∧ k_ ≠ gb478 ∧ k_ ≠ gb479)) (by (with_reducible repeat first | apply Kd.R_alloc | apply Kd.R_drewN | apply Kd.R_drew); exact Kd.R_mono HO488.out (fun _ hk => ⟨⟨hk.1.1.1.1.1.1.1.2, ⟨hk.1.1.1.1.1.2, ⟨hk.1.1.1.1.2, ⟨hk.2, ⟨hk.1.1.1.2, ⟨hk.1.1.2, hk.1.2⟩⟩⟩⟩⟩⟩, hk.1.1.1.1.1.1.2⟩)) hg hat)
            have n7_ := MS.am (Kd.R_after (ok := (fun k_ => some k_ ≠ (.slice (some ad476) t473.length co7 : Value).ownBlock ∧ some k_ ≠ (.slice Ao45 x13_1.length co45 : Value).ownBlock ∧ some k_ ≠ (.slice (some ad476) t473.length co7 : Value).ownBlock ∧ some k_ ≠ (v487 : Value).ownBlock ∧ k_ ≠ gb477 ∧ k_ ≠ gb478 ∧ k_ ≠ gb479)) (by (with_reducible repeat first | apply Kd.R_alloc | apply Kd.R_drewN | apply Kd.R_drew); exact Kd.R_mono HO482.out (fun _ hk => ⟨⟨hk.1.1.1.1.1.1.1.2, ⟨hk.1.1.1.1.1.2, ⟨hk.1.1.1.1.2, ⟨hk.1.1.1.2, ⟨hk.1.1.2, ⟨hk.1.2, hk.2⟩⟩⟩⟩⟩⟩, hk.1.1.1.1.1.1.2⟩)) hg hat)
            have n8_ := MS.am (hb)
            have n9_ := MS.am (ho)
            clear HO_9
            clear HO_13
            clear HO_26
            clear BK477
            clear BK478
            clear BK479
            clear HO488
            clear HO482
            clear HB
            clear HO_12
            have HO_9 := n0_
            have HO_13 := n1_
            have HO_26 := n2_
            have BK477 := n3_
            have BK478 := n4_
            have BK479 := n5_
            have HO488 := n6_
            have HO482 := n7_
            have HB := n8_
            have HO485 := n9_
            clear n0_ n1_ n2_ n3_ n4_ n5_ n6_ n7_ n8_ n9_
            clear ho hb hg hat
            refine hK.out _ _ ⟨(blk_cell BK478.out 0).trans rfl, (blk_cell BK478.out 1).trans rfl, (blk_cell BK478.out 2).trans rfl, (blk_cell BK478.out 3).trans rfl, (blk_cell BK478.out 4).trans rfl, (blk_cell BK478.out 5).trans rfl, (blk_cell BK478.out 6).trans rfl, (blk_cell BK479.out 0).trans rfl, (blk_cell BK479.out 1).trans rfl, (blk_cell BK479.out 2).trans rfl, (blk_cell BK479.out 3).trans rfl, (blk_cell BK479.out 4).trans rfl, (blk_cell BK479.out 5).trans rfl, (blk_cell BK479.out 6).trans rfl⟩ (fun hHeld => ?_)
            clear hK K
            refine norm_ (a' := ?_) ?_ ?_
            rotate_left
            ·show Act.put _ (some 57) _ = _
             simp only [Act.put, List.setIfInBounds_toArray, List.set_cons_zero, List.set_cons_succ, i64_w, i32_w]
             rfl
            exact norm_ (by simp only [putAll, Act.put, List.setIfInBounds_toArray, List.set_cons_zero, List.set_cons_succ]) (hCont (.slice Ao53 y480.length co53, v484, v487) _ ⟨hHeld, (by (with_reducible repeat first | apply Kd.R_alloc | apply Kd.R_drewN | apply Kd.R_drew); exact Kd.R_mono HO482.out (fun _ hk => ⟨hk.2, ⟨hk.1.2.2.2.1, ⟨hk.1.2.1, ⟨hk.1.2.2.1, ⟨hk.1.1, ⟨hk.1.2.2.2.2.1, ⟨hk.1.2.2.2.2.2.1, hk.1.2.2.2.2.2.2⟩⟩⟩⟩⟩⟩⟩)), (by (with_reducible repeat first | apply Kd.R_alloc | apply Kd.R_drewN | apply Kd.R_drew); exact Kd.R_mono HO485.out (fun _ hk => ⟨hk.2.2.2.2.1, ⟨hk.2.2.2.1, ⟨hk.2.1, ⟨hk.2.2.1, ⟨hk.1, ⟨hk.2.2.2.2.2.1, ⟨hk.2.2.2.2.2.2.1, hk.2.2.2.2.2.2.2⟩⟩⟩⟩⟩⟩⟩)), (by (with_reducible repeat first | apply Kd.R_alloc | apply Kd.R_drewN | apply Kd.R_drew); exact Kd.R_mono HO488.out (fun _ hk => ⟨hk.1.2.2.2.1, ⟨hk.2, ⟨hk.1.2.1, ⟨hk.1.2.2.1, ⟨hk.1.1, ⟨hk.1.2.2.2.2.1, ⟨hk.1.2.2.2.2.2.1, hk.1.2.2.2.2.2.2⟩⟩⟩⟩⟩⟩⟩)), (by (with_reducible repeat first | apply Kd.R_alloc | apply Kd.R_drewN | apply Kd.R_drew); exact Kd.R_mono HO_13.out (fun _ hk => ⟨hk.1.2.2.2.1, ⟨hk.2, ⟨hk.1.2.2.1, ⟨hk.1.2.1, ⟨hk.1.1, ⟨hk.1.2.2.2.2.1, ⟨hk.1.2.2.2.2.2.1, hk.1.2.2.2.2.2.2⟩⟩⟩⟩⟩⟩⟩)), (by (with_reducible repeat first | apply Kd.R_alloc | apply Kd.R_drewN | apply Kd.R_drew); exact Kd.R_mono HO_26.out (fun _ hk => ⟨hk.1.2.2.1, ⟨hk.2, ⟨hk.1.2.1, ⟨hk.1.1, ⟨hk.1.2.2.2.1, ⟨hk.1.2.2.2.2.1, hk.1.2.2.2.2.2⟩⟩⟩⟩⟩⟩)), (by (with_reducible repeat first | apply Kd.R_alloc | apply Kd.R_drewN | apply Kd.R_drew); exact Kd.R_mono HO_9.out (fun _ hk => ⟨hk.1.2.2.1, ⟨hk.2, ⟨hk.1.2.1, ⟨hk.1.1, ⟨hk.1.2.2.2.1, ⟨hk.1.2.2.2.2.1, hk.1.2.2.2.2.2⟩⟩⟩⟩⟩⟩)), (by (with_reducible repeat first | refine blk_drewN ?_ _ | refine blk_drew ?_ | refine blk_alloc ?_ _); exact BK477.out), (by (with_reducible repeat first | refine blk_drewN ?_ _ | refine blk_drew ?_ | refine blk_alloc ?_ _); exact BK478.out), (by (with_reducible repeat first | refine blk_drewN ?_ _ | refine blk_drew ?_ | refine blk_alloc ?_ _); exact BK479.out), (by repeat (first | (with_reducible first | exact HB.out | apply below_alloc | apply pw_below_drewN | apply below_drew1 | refine below_set ?_ GE477.out | refine below_set ?_ GE478.out | refine below_set ?_ GE479.out) | exact HB.out))⟩)
          rintro ⟨v481, v484, v487⟩ w54 ⟨hS_, h0_, h1_, h2_, h3_, h4_, h5_, h6_, h7_, h8_, h9_⟩
          have n0_ : Aside0 (Kd.R k34 34 w54 w.heap.size (fun k_ => some k_ ≠ (v484 : Value).ownBlock ∧ some k_ ≠ (v487 : Value).ownBlock ∧ some k_ ≠ (.slice Ao45 x13_1.length co45 : Value).ownBlock ∧ some k_ ≠ (.slice (some ad476) t473.length co7 : Value).ownBlock ∧ some k_ ≠ (.slice (some ad476) t473.length co7 : Value).ownBlock ∧ k_ ≠ gb477 ∧ k_ ≠ gb478 ∧ k_ ≠ gb479) v481 y480) := ⟨h0_⟩
          have n1_ : Aside0 (Kd.R k34 34 w54 w.heap.size (fun k_ => some k_ ≠ (v481 : Value).ownBlock ∧ some k_ ≠ (v487 : Value).ownBlock ∧ some k_ ≠ (.slice Ao45 x13_1.length co45 : Value).ownBlock ∧ some k_ ≠ (.slice (some ad476) t473.length co7 : Value).ownBlock ∧ some k_ ≠ (.slice (some ad476) t473.length co7 : Value).ownBlock ∧ k_ ≠ gb477 ∧ k_ ≠ gb478 ∧ k_ ≠ gb479) v484 y483) := ⟨h1_⟩
          have n2_ : Aside0 (Kd.R k34 34 w54 w.heap.size (fun k_ => some k_ ≠ (v481 : Value).ownBlock ∧ some k_ ≠ (v484 : Value).ownBlock ∧ some k_ ≠ (.slice Ao45 x13_1.length co45 : Value).ownBlock ∧ some k_ ≠ (.slice (some ad476) t473.length co7 : Value).ownBlock ∧ some k_ ≠ (.slice (some ad476) t473.length co7 : Value).ownBlock ∧ k_ ≠ gb477 ∧ k_ ≠ gb478 ∧ k_ ≠ gb479) v487 y486) := ⟨h2_⟩
          have n3_ : Aside0 (Kd.R k34 34 w54 w.heap.size (fun k_ => some k_ ≠ (v481 : Value).ownBlock ∧ some k_ ≠ (v484 : Value).ownBlock ∧ some k_ ≠ (v487 : Value).ownBlock ∧ some k_ ≠ (.slice (some ad476) t473.length co7 : Value).ownBlock ∧ some k_ ≠ (.slice (some ad476) t473.length co7 : Value).ownBlock ∧ k_ ≠ gb477 ∧ k_ ≠ gb478 ∧ k_ ≠ gb479) (.slice Ao45 x13_1.length co45) x13_1) := ⟨h3_⟩
          have n4_ : Aside0 (Kd.R k34 34 w54 w.heap.size (fun k_ => some k_ ≠ (v481 : Value).ownBlock ∧ some k_ ≠ (v484 : Value).ownBlock ∧ some k_ ≠ (v487 : Value).ownBlock ∧ some k_ ≠ (.slice Ao45 x13_1.length co45 : Value).ownBlock ∧ k_ ≠ gb477 ∧ k_ ≠ gb478 ∧ k_ ≠ gb479) (.slice (some ad476) t473.length co7) t473) := ⟨h4_⟩
          have n5_ : Aside0 (Kd.R k34 34 w54 w.heap.size (fun k_ => some k_ ≠ (v481 : Value).ownBlock ∧ some k_ ≠ (v484 : Value).ownBlock ∧ some k_ ≠ (v487 : Value).ownBlock ∧ some k_ ≠ (.slice Ao45 x13_1.length co45 : Value).ownBlock ∧ k_ ≠ gb477 ∧ k_ ≠ gb478 ∧ k_ ≠ gb479) (.slice (some ad476) t473.length co7) t473) := ⟨h5_⟩
          have n6_ : Aside0 (w54.heap[gb477]? = some (.cells #[.int .i64 ((rd_T34 t473 x28_1).f0), .int .i64 (((rd_T34 t473 x28_1).f1) / 4), .int .i64 x478002_10, .int .i64 x478003_10, .int .i64 x478004_10, .int .i64 x478005_10, .int .i64 x478006_10] 34 (0, 0))) := ⟨h6_⟩
          have n7_ : Aside0 (w54.heap[gb478]? = some (.cells #[.int .i64 (wrap64 (((rd_T34 t473 x28_1).f0) + (Go.bits .and .i64 a1 1023))), .int .i64 (((rd_T34 t473 x28_1).f1) / 4), .int .i64 x478002_10, .int .i64 x478003_10, .int .i64 x478004_10, .int .i64 x478005_10, .int .i64 x478006_10] 34 (0, 0))) := ⟨h7_⟩
          have n8_ : Aside0 (w54.heap[gb479]? = some (.cells #[.int .i64 ((rd_T34 t473 x28_1).f0), .int .i64 (wrap64 ((((rd_T34 t473 x28_1).f1) / 4) + (Int.tmod a2 65536))), .int .i64 x478002_10, .int .i64 x478003_10, .int .i64 x478004_10, .int .i64 x478005_10, .int .i64 x478006_10] 34 (0, 0))) := ⟨h8_⟩
          have n9_ : Aside0 (Below w.heap.size w w54) := ⟨h9_⟩
          clear HO_9
          clear HO_12
          clear HO_13
          clear HO_26
          clear BK477
          clear BK478
          clear BK479
          clear HB
          clear h0_ h1_ h2_ h3_ h4_ h5_ h6_ h7_ h8_ h9_
          have HO482 := n0_
          have HO485 := n1_
          have HO488 := n2_
          have HO_13 := n3_
          have HO_26 := n4_
          have HO_9 := n5_
          have BK477 := n6_
          have BK478 := n7_
          have BK479 := n8_
          have HB := n9_
          clear n0_ n1_ n2_ n3_ n4_ n5_ n6_ n7_ n8_ n9_
          have hHeld : w54.cell? ⟨gb478, 0, none⟩ = some (.int .i64 (wrap64 (((rd_T34 t473 x28_1).f0) + (Go.bits .and .i64 a1 1023)))) ∧ w54.cell? ⟨gb478, 1, none⟩ = some (.int .i64 (((rd_T34 t473 x28_1).f1) / 4)) ∧ w54.cell? ⟨gb478, 2, none⟩ = some (.int .i64 x478002_10) ∧ w54.cell? ⟨gb478, 3, none⟩ = some (.int .i64 x478003_10) ∧ w54.cell? ⟨gb478, 4, none⟩ = some (.int .i64 x478004_10) ∧ w54.cell? ⟨gb478, 5, none⟩ = some (.int .i64 x478005_10) ∧ w54.cell? ⟨gb478, 6, none⟩ = some (.int .i64 x478006_10) ∧ w54.cell? ⟨gb479, 0, none⟩ = some (.int .i64 ((rd_T34 t473 x28_1).f0)) ∧ w54.cell? ⟨gb479, 1, none⟩ = some (.int .i64 (wrap64 ((((rd_T34 t473 x28_1).f1) / 4) + (Int.tmod a2 65536)))) ∧ w54.cell? ⟨gb479, 2, none⟩ = some (.int .i64 x478002_10) ∧ w54.cell? ⟨gb479, 3, none⟩ = some (.int .i64 x478003_10) ∧ w54.cell? ⟨gb479, 4, none⟩ = some (.int .i64 x478004_10) ∧ w54.cell? ⟨gb479, 5, none⟩ = some (.int .i64 x478005_10) ∧ w54.cell? ⟨gb479, 6, none⟩ = some (.int .i64 x478006_10) := hS_
          obtain ⟨Ao56, co56, eo56⟩ := Kd.R_slice HO488.out
          (first | subst eo56 | (injection eo56 with f1_ f2_ f3_; have f4_ := f1_.symm; have f5_ := f3_.symm; clear f1_ f2_ f3_; subst f4_; subst f5_))
          refine norm_ (a' := ?_) ?_ ?_
          rotate_left
          ·simp only [putAll, Act.put, List.setIfInBounds_toArray, List.set_cons_zero, List.set_cons_succ]
           rfl
          refine one_ (i := 7) (N := some 61) #[true, true, true, true, true, true, true, true, false, false] rfl rfl (one_of HT_.out (by kernel_rfl)) (by decide) (fun K hK => ?_)
          refine Kd.R_append_rows_step k34 (w0 := w) w.heap.size (by rfl) (.tmp 58) (.tmp 60) 31 34 (.agg #[(.int .i64 0), (.int .i64 0), (.int .i64 0), (.int .i64 0), (.int .i64 0), (.int .i64 0), (.int .i64 0)]) 56 rfl Try.underlying31 info34 rfl (by decide) (by omega) (.slice Ao45 x13_1.length co45) x13_1 y486 _ _ _ (fun k_ => some k_ ≠ (.slice (some ad476) t473.length co7 : Value).ownBlock ∧ some k_ ≠ (.slice (some ad476) t473.length co7 : Value).ownBlock ∧ some k_ ≠ (v481 : Value).ownBlock ∧ some k_ ≠ (v484 : Value).ownBlock ∧ some k_ ≠ (.slice Ao56 y486.length co56 : Value).ownBlock ∧ k_ ≠ gb477 ∧ k_ ≠ gb478 ∧ k_ ≠ gb479) (fun _ => False) rfl rfl ?aO ?aR (fun _ _ h => h) (fun _ h => h.elim) ?aF ?aB ?aS ?aL ?_
          (case aR => repeat (first | exact (Kd.R_reads' HO488.out).2.2 | (with_reducible refine Kd.C_alloc ?_ _) | (with_reducible refine Kd.C_drewN ?_ _) | (with_reducible refine Kd.C_drew ?_)))
          (case aB => exact (by repeat (first | (with_reducible first | exact HB.out | apply below_alloc | apply pw_below_drewN | apply below_drew1 | refine below_set ?_ GE477.out | refine below_set ?_ GE478.out | refine below_set ?_ GE479.out) | exact HB.out)))
          (case aF => exact (fun k_ hk => ⟨Kd.fresh' (Kd.R_lt (by (with_reducible repeat first | apply Kd.R_alloc | apply Kd.R_drewN | apply Kd.R_drew); exact HO_9.out)) k_ hk, Kd.fresh' (Kd.R_lt (by (with_reducible repeat first | apply Kd.R_alloc | apply Kd.R_drewN | apply Kd.R_drew); exact HO_26.out)) k_ hk, Kd.fresh' (Kd.R_lt (by (with_reducible repeat first | apply Kd.R_alloc | apply Kd.R_drewN | apply Kd.R_drew); exact HO482.out)) k_ hk, Kd.fresh' (Kd.R_lt (by (with_reducible repeat first | apply Kd.R_alloc | apply Kd.R_drewN | apply Kd.R_drew); exact HO485.out)) k_ hk, Kd.fresh' (Kd.R_lt (by (with_reducible repeat first | apply Kd.R_alloc | apply Kd.R_drewN | apply Kd.R_drew); exact HO488.out)) k_ hk, Kd.freshB (g := gb477) (o := .cells #[.int .i64 ((rd_T34 t473 x28_1).f0), .int .i64 (((rd_T34 t473 x28_1).f1) / 4), .int .i64 x478002_10, .int .i64 x478003_10, .int .i64 x478004_10, .int .i64 x478005_10, .int .i64 x478006_10] 34 (0, 0)) (by (with_reducible repeat first | refine blk_drewN ?_ _ | refine blk_drew ?_ | refine blk_alloc ?_ _); exact BK477.out) k_ hk, Kd.freshB (g := gb478) (o := .cells #[.int .i64 (wrap64 (((rd_T34 t473 x28_1).f0) + (Go.bits .and .i64 a1 1023))), .int .i64 (((rd_T34 t473 x28_1).f1) / 4), .int .i64 x478002_10, .int .i64 x478003_10, .int .i64 x478004_10, .int .i64 x478005_10, .int .i64 x478006_10] 34 (0, 0)) (by (with_reducible repeat first | refine blk_drewN ?_ _ | refine blk_drew ?_ | refine blk_alloc ?_ _); exact BK478.out) k_ hk, Kd.freshB (g := gb479) (o := .cells #[.int .i64 ((rd_T34 t473 x28_1).f0), .int .i64 (wrap64 ((((rd_T34 t473 x28_1).f1) / 4) + (Int.tmod a2 65536))), .int .i64 x478002_10, .int .i64 x478003_10, .int .i64 x478004_10, .int .i64 x478005_10, .int .i64 x478006_10] 34 (0, 0)) (by (with_reducible repeat first | refine blk_drewN ?_ _ | refine blk_drew ?_ | refine blk_alloc ?_ _); exact BK479.out) k_ hk⟩))
          (case aO => exact (by (with_reducible repeat first | apply Kd.R_alloc | apply Kd.R_drewN | apply Kd.R_drew); exact Kd.R_mono HO_13.out (fun _ hk => ⟨hk.2.2.2.2.1, ⟨hk.2.2.2.1, ⟨hk.1, ⟨hk.2.1, ⟨hk.2.2.1, ⟨hk.2.2.2.2.2.1, ⟨hk.2.2.2.2.2.2.1, hk.2.2.2.2.2.2.2⟩⟩⟩⟩⟩⟩⟩)))
          (case aS => exact (below_size (by repeat (first | (with_reducible first | exact HB.out | apply below_alloc | apply pw_below_drewN | apply below_drew1 | refine below_set ?_ GE477.out | refine below_set ?_ GE478.out | refine below_set ?_ GE479.out) | exact HB.out))))
          (case aL => have := LMc17.out; omega)
          intro v490 w55 ho hb hg hat
          rw [← Ny489.out] at ho
          have n0_ := MS.am (Kd.R_after (ok := (fun k_ => some k_ ≠ (v481 : Value).ownBlock ∧ some k_ ≠ (v484 : Value).ownBlock ∧ some k_ ≠ (.slice Ao56 y486.length co56 : Value).ownBlock ∧ k_ ≠ gb477 ∧ k_ ≠ gb478 ∧ k_ ≠ gb479)) (by (with_reducible repeat first | apply Kd.R_alloc | apply Kd.R_drewN | apply Kd.R_drew); exact Kd.R_mono HO_9.out (fun _ hk => ⟨⟨hk.1, ⟨hk.2.1, ⟨hk.2.2.1, ⟨hk.2.2.2.2.1, ⟨hk.2.2.2.2.2.1, hk.2.2.2.2.2.2⟩⟩⟩⟩⟩, hk.2.2.2.1⟩)) hg hat)
          have n1_ := MS.am (Kd.R_after (ok := (fun k_ => some k_ ≠ (v481 : Value).ownBlock ∧ some k_ ≠ (v484 : Value).ownBlock ∧ some k_ ≠ (.slice Ao56 y486.length co56 : Value).ownBlock ∧ k_ ≠ gb477 ∧ k_ ≠ gb478 ∧ k_ ≠ gb479)) (by (with_reducible repeat first | apply Kd.R_alloc | apply Kd.R_drewN | apply Kd.R_drew); exact Kd.R_mono HO_26.out (fun _ hk => ⟨⟨hk.1, ⟨hk.2.1, ⟨hk.2.2.1, ⟨hk.2.2.2.2.1, ⟨hk.2.2.2.2.2.1, hk.2.2.2.2.2.2⟩⟩⟩⟩⟩, hk.2.2.2.1⟩)) hg hat)
          have n2_ := MS.am (blk_grown (g := gb477) (o := .cells #[.int .i64 ((rd_T34 t473 x28_1).f0), .int .i64 (((rd_T34 t473 x28_1).f1) / 4), .int .i64 x478002_10, .int .i64 x478003_10, .int .i64 x478004_10, .int .i64 x478005_10, .int .i64 x478006_10] 34 (0, 0)) (by (with_reducible repeat first | refine blk_drewN ?_ _ | refine blk_drew ?_ | refine blk_alloc ?_ _); exact BK477.out) hg (Kd.R_away HO_13.out (fun _ hk => hk.2.2.2.2.2.1)))
          have n3_ := MS.am (blk_grown (g := gb478) (o := .cells #[.int .i64 (wrap64 (((rd_T34 t473 x28_1).f0) + (Go.bits .and .i64 a1 1023))), .int .i64 (((rd_T34 t473 x28_1).f1) / 4), .int .i64 x478002_10, .int .i64 x478003_10, .int .i64 x478004_10, .int .i64 x478005_10, .int .i64 x478006_10] 34 (0, 0)) (by (with_reducible repeat first | refine blk_drewN ?_ _ | refine blk_drew ?_ | refine blk_alloc ?_ _); exact BK478.out) hg (Kd.R_away HO_13.out (fun _ hk => hk.2.2.2.2.2.2.1)))
          have n4_ := MS.am (blk_grown (g := gb479) (o := .cells #[.int .i64 ((rd_T34 t473 x28_1).f0), .int .i64 (wrap64 ((((rd_T34 t473 x28_1).f1) / 4) + (Int.tmod a2 65536))), .int .i64 x478002_10, .int .i64 x478003_10, .int .i64 x478004_10, .int .i64 x478005_10, .int .i64 x478006_10] 34 (0, 0)) (by (with_reducible repeat first | refine blk_drewN ?_ _ | refine blk_drew ?_ | refine blk_alloc ?_ _); exact BK479.out) hg (Kd.R_away HO_13.out (fun _ hk => hk.2.2.2.2.2.2.2)))
          have n5_ := MS.am (Kd.R_after (ok := (fun k_ => some k_ ≠ (.slice (some ad476) t473.length co7 : Value).ownBlock ∧ some k_ ≠ (.slice (some ad476) t473.length co7 : Value).ownBlock ∧ some k_ ≠ (v484 : Value).ownBlock ∧ some k_ ≠ (.slice Ao56 y486.length co56 : Value).ownBlock ∧ k_ ≠ gb477 ∧ k_ ≠ gb478 ∧ k_ ≠ gb479)) (by (with_reducible repeat first | apply Kd.R_alloc | apply Kd.R_drewN | apply Kd.R_drew); exact Kd.R_mono HO482.out (fun _ hk => ⟨⟨hk.2.2.2.2.1, ⟨hk.2.2.2.1, ⟨hk.1, ⟨hk.2.1, ⟨hk.2.2.2.2.2.1, ⟨hk.2.2.2.2.2.2.1, hk.2.2.2.2.2.2.2⟩⟩⟩⟩⟩⟩, hk.2.2.1⟩)) hg hat)
          have n6_ := MS.am (Kd.R_after (ok := (fun k_ => some k_ ≠ (.slice (some ad476) t473.length co7 : Value).ownBlock ∧ some k_ ≠ (.slice (some ad476) t473.length co7 : Value).ownBlock ∧ some k_ ≠ (v481 : Value).ownBlock ∧ some k_ ≠ (.slice Ao56 y486.length co56 : Value).ownBlock ∧ k_ ≠ gb477 ∧ k_ ≠ gb478 ∧ k_ ≠ gb479)) (by (with_reducible repeat first | apply Kd.R_alloc | apply Kd.R_drewN | apply Kd.R_drew); exact Kd.R_mono HO485.out (fun _ hk => ⟨⟨hk.2.2.2.2.1, ⟨hk.2.2.2.1, ⟨hk.1, ⟨hk.2.1, ⟨hk.2.2.2.2.2.1, ⟨hk.2.2.2.2.2.2.1, hk.2.2.2.2.2.2.2⟩⟩⟩⟩⟩⟩, hk.2.2.1⟩)) hg hat)
          have n7_ := MS.am (Kd.R_after (ok := (fun k_ => some k_ ≠ (.slice (some ad476) t473.length co7 : Value).ownBlock ∧ some k_ ≠ (.slice (some ad476) t473.length co7 : Value).ownBlock ∧ some k_ ≠ (v481 : Value).ownBlock ∧ some k_ ≠ (v484 : Value).ownBlock ∧ k_ ≠ gb477 ∧ k_ ≠ gb478 ∧ k_ ≠ gb479)) (by (with_reducible repeat first | apply Kd.R_alloc | apply Kd.R_drewN | apply Kd.R_drew); exact Kd.R_mono HO488.out (fun _ hk => ⟨⟨hk.2.2.2.2.1, ⟨hk.2.2.2.1, ⟨hk.1, ⟨hk.2.1, ⟨hk.2.2.2.2.2.1, ⟨hk.2.2.2.2.2.2.1, hk.2.2.2.2.2.2.2⟩⟩⟩⟩⟩⟩, hk.2.2.1⟩)) hg hat)
          have n8_ := MS.am (hb)
          have n9_ := MS.am (ho)
          clear HO_9
          clear HO_26
          clear BK477
          clear BK478
          clear BK479
          clear HO482
          clear HO485
          clear HO488
          clear HB
          clear HO_13
          have HO_9 := n0_
          have HO_26 := n1_
          have BK477 := n2_
          have BK478 := n3_
          have BK479 := n4_
          have HO482 := n5_
          have HO485 := n6_
          have HO488 := n7_
          have HB := n8_
          have HO491 := n9_
          clear n0_ n1_ n2_ n3_ n4_ n5_ n6_ n7_ n8_ n9_
          clear ho hb hg hat
          refine hK.out _ _ ⟨(blk_cell BK478.out 0).trans rfl, (blk_cell BK478.out 1).trans rfl, (blk_cell BK478.out 2).trans rfl, (blk_cell BK478.out 3).trans rfl, (blk_cell BK478.out 4).trans rfl, (blk_cell BK478.out 5).trans rfl, (blk_cell BK478.out 6).trans rfl, (blk_cell BK479.out 0).trans rfl, (blk_cell BK479.out 1).trans rfl, (blk_cell BK479.out 2).trans rfl, (blk_cell BK479.out 3).trans rfl, (blk_cell BK479.out 4).trans rfl, (blk_cell BK479.out 5).trans rfl, (blk_cell BK479.out 6).trans rfl⟩ (fun hHeld => ?_)
          clear hK K
          refine norm_ (a' := ?_) ?_ ?_
          rotate_left
          ·show Act.put _ (some 61) _ = _
           simp only [Act.put, List.setIfInBounds_toArray, List.set_cons_zero, List.set_cons_succ, i64_w, i32_w]
           rfl
          refine pure_ (i := 8) (N := some 12) (v := ?_) (a' := ?_) #[true, true, true, true, true, true, true, true, true, false] rfl rfl (any_of HT_.out (by kernel_rfl)) (fun _ _ _ h => h) (Or.inl ⟨by rfl, ?_⟩) ?_ ?_
          rotate_left
          ·intro w'
           go_simp
           with_reducible rfl
          rotate_left
          ·simp only [Act.put, List.setIfInBounds_toArray, List.set_cons_zero, List.set_cons_succ, i64_w, i32_w]
           rfl
          refine pure_ (i := 9) (N := some 13) (v := ?_) (a' := ?_) #[true, true, true, true, true, true, true, true, true, true] rfl rfl (any_of HT_.out (by kernel_rfl)) (fun _ _ _ h => h) (Or.inl ⟨by rfl, ?_⟩) ?_ ?_
          rotate_left
          ·intro w'
           go_simp
           with_reducible rfl
          rotate_left
          ·simp only [Act.put, List.setIfInBounds_toArray, List.set_cons_zero, List.set_cons_succ, i64_w, i32_w]
           rfl
          refine done_ (done_of HT_.out (by kernel_rfl)) ?_
          try go_wp2
          go_roundg kj10
          case measure => have := HK1.out; have := HJ10.out; omega
          case rel => exact ⟨(y483), (y489), (wrap64 (x28_1 + 1)), (by first | rfl | (simp; done) | simp [*]), H', ⟨by have := HK1.out; have := HJ10.out; omega⟩, ⟨by (with_reducible repeat first | apply Kd.R_alloc | apply Kd.R_drewN | apply Kd.R_drew); exact Kd.R_mono HO_9.out (fun _ hk => ⟨hk.1.2.1, hk.2⟩)⟩, ⟨by (with_reducible repeat first | apply Kd.R_alloc | apply Kd.R_drewN | apply Kd.R_drew); exact Kd.R_mono HO485.out (fun _ hk => ⟨hk.1.1, ⟨hk.2, hk.1.2.1⟩⟩)⟩, ⟨by (with_reducible repeat first | apply Kd.R_alloc | apply Kd.R_drewN | apply Kd.R_drew); exact Kd.R_mono HO491.out (fun _ hk => ⟨hk.1, ⟨hk.2.2.2.1, hk.2.1⟩⟩)⟩, ⟨by (with_reducible repeat first | apply Kd.R_alloc | apply Kd.R_drewN | apply Kd.R_drew); exact Kd.R_mono HO_26.out (fun _ hk => ⟨hk.1.2.1, hk.2⟩)⟩, ⟨by repeat (first | (with_reducible first | exact HB.out | apply below_alloc | apply pw_below_drewN | apply below_drew1 | refine below_set ?_ GE477.out | refine below_set ?_ GE478.out | refine below_set ?_ GE479.out) | exact HB.out)⟩⟩
         ·rw [if_neg c17] at H
          exact absurd H (by simp)
        ·rw [if_neg c16] at H
         exact absurd H (by simp)
     ·rw [if_neg c10] at H
      exact absurd H (by simp)
    ·rw [if_neg c9] at H
     exact absurd H (by simp)
   ·rw [if_neg c8] at H
    have c8b0 : decide (x28_1 < (t473.length : Int)) = false := decide_eq_false c8
    clear c8
    have H' := Aside0.mk H
    clear H
    go_wp2
    go_loopg [65] k1 (fun kq v65 w' => ∃ (x9_2 : List (S34)) (x65_2 : Int), v65 = .int .i64 x65_2 ∧ Aside0 (mutoscopelaw5_KeyShifts.l1 kq a3 x9_2 (Go.bits .and .i64 a1 1023) (Int.tmod a2 65536) x12_1 x13_1 (t473.length : Int) x65_2 = some r) ∧ Aside0 (kq ≤ k1) ∧ Aside0 (Kd.R k34 34 w' w.heap.size (fun k_ => some k_ ≠ (u12 : Value).ownBlock ∧ some k_ ≠ (u13 : Value).ownBlock) (.slice Ao7 t473.length co7) x9_2) ∧ Aside0 (Kd.R k34 34 w' w.heap.size (fun k_ => some k_ ≠ ((.slice Ao7 t473.length co7) : Value).ownBlock ∧ some k_ ≠ (u13 : Value).ownBlock) u12 x12_1) ∧ Aside0 (Kd.R k34 34 w' w.heap.size (fun k_ => some k_ ≠ ((.slice Ao7 t473.length co7) : Value).ownBlock ∧ some k_ ≠ (u12 : Value).ownBlock) u13 x13_1) ∧ Aside0 (Below w.heap.size w w'))
    case atStart => exact ⟨(t473), (0), (by first | rfl | (simp; done) | simp [*]), H', ⟨Nat.le_refl _⟩, ⟨by (with_reducible repeat first | apply Kd.R_alloc | apply Kd.R_drewN | apply Kd.R_drew); exact HO_9.out⟩, ⟨by (with_reducible repeat first | apply Kd.R_alloc | apply Kd.R_drewN | apply Kd.R_drew); exact Kd.R_mono HO_12.out (fun _ hk => ⟨hk.1, hk.2.1⟩)⟩, ⟨by (with_reducible repeat first | apply Kd.R_alloc | apply Kd.R_drewN | apply Kd.R_drew); exact Kd.R_mono HO_13.out (fun _ hk => ⟨hk.1, hk.2.1⟩)⟩, ⟨by repeat (first | (with_reducible first | exact HB.out | apply below_alloc | apply pw_below_drewN | apply below_drew1) | exact HB.out)⟩⟩
    case round =>
     clear H'
     try clear c1
     try clear p2
     try clear p6
     try clear c7
     try clear c8
     try clear c8b0
     try clear c9
     try clear c10
     try clear c16
     try clear c17
     try clear hcz43_0
     try clear hcz43_1
     try clear hcz43_2
     try clear hcz43_3
     try clear hcz43_4
     try clear hcz43_5
     try clear hcz43_6
     try clear hfz42_4
     try clear hfz42_5
     try clear hfz42_6
     try clear hfz43_0
     try clear hfz43_1
     try clear hfz43_2
     try clear hfz43_3
     try clear hfz43_4
     try clear hfz43_5
     try clear hfz43_6
     obtain ⟨x9_2, x65_2, rfl, HA, HK2, HO_9, HO_12, HO_13, HB⟩ := hrel
     have hl9_2 := (Kd.R_reads' HO_9.out).1
     rw [hl9_2] at HO_9
     (try simp only [hl9_2])
     (try simp only [hl9_2] at HO_12)
     (try simp only [hl9_2] at HO_13)
     cases gk with
     | zero => exact absurd HA.out (by simp [mutoscopelaw5_KeyShifts.l1])
     | succ k2 =>
      have H := HA.out
      clear HA
      simp only [mutoscopelaw5_KeyShifts.l1] at H
      by_cases c57 : x65_2 < (t473.length : Int)
      ·rw [if_pos c57] at H
       have c57b0 : decide (x65_2 < (t473.length : Int)) = true := decide_eq_true c57
       clear c57
       by_cases c58 : 0 ≤ x65_2
       ·rw [if_pos c58] at H
        have c58b0 : decide (0 ≤ x65_2) = true := decide_eq_true c58
        clear c58
        by_cases c59 : x65_2 < (x12_1.length : Int)
        ·rw [if_pos c59] at H
         have c59b0 : decide (x65_2 < (x12_1.length : Int)) = true := decide_eq_true c59
         clear c59
         by_cases c60 : x65_2 < (x9_2.length : Int)
         ·rw [if_pos c60] at H
          have c60b0 : decide (x65_2 < (x9_2.length : Int)) = true := decide_eq_true c60
          clear c60
          obtain ⟨y493, hy493⟩ : ∃ y_ : List (S34), y_ = (x9_2.set (x65_2 : Int).toNat (⟨(rd_T34 x9_2 x65_2).f0, (rd_T34 x12_1 x65_2).f1, (rd_T34 x9_2 x65_2).f2, (⟨(rd_T34 x9_2 x65_2).f3.f0, (rd_T34 x9_2 x65_2).f3.f1, (rd_T34 x9_2 x65_2).f3.f2, (rd_T34 x9_2 x65_2).f3.f3⟩ : S23)⟩ : S34)) := ⟨_, rfl⟩
          replace H : ((some (y493.set (x65_2 : Int).toNat (⟨(rd_T34 y493 x65_2).f0, (rd_T34 y493 x65_2).f1, (rd_T34 x12_1 x65_2).f2, (⟨(rd_T34 y493 x65_2).f3.f0, (rd_T34 y493 x65_2).f3.f1, (rd_T34 y493 x65_2).f3.f2, (rd_T34 y493 x65_2).f3.f3⟩ : S23)⟩ : S34) : List (S34))).bind fun y496 => (mutoscopelaw5_KeyShifts.l1 k2 a3 (y496.set (x65_2 : Int).toNat (⟨(rd_T34 y496 x65_2).f0, (rd_T34 y496 x65_2).f1, (rd_T34 y496 x65_2).f2, (⟨(rd_T34 x12_1 x65_2).f3.f0, (rd_T34 x12_1 x65_2).f3.f1, (rd_T34 x12_1 x65_2).f3.f2, (rd_T34 x12_1 x65_2).f3.f3⟩ : S23)⟩ : S34)) (Go.bits .and .i64 a1 1023) (Int.tmod a2 65536) x12_1 x13_1 (t473.length : Int) (wrap64 (x65_2 + 1)))) = some r := by first | (rw [hy493]; with_reducible exact H) | (have H2_ := (Option.bind_some _ _).symm.trans H; rw [hy493]; with_reducible exact H2_) | (have H2_ := (Option.bind_some _ _).symm.trans H; with_reducible exact H2_) | with_reducible exact H | (rw [hy493]; exact H) | exact H
          have Ny493 := Aside0.mk hy493
          clear hy493
          obtain ⟨y496, hy496⟩ : ∃ y_ : List (S34), y_ = (y493.set (x65_2 : Int).toNat (⟨(rd_T34 y493 x65_2).f0, (rd_T34 y493 x65_2).f1, (rd_T34 x12_1 x65_2).f2, (⟨(rd_T34 y493 x65_2).f3.f0, (rd_T34 y493 x65_2).f3.f1, (rd_T34 y493 x65_2).f3.f2, (rd_T34 y493 x65_2).f3.f3⟩ : S23)⟩ : S34)) := ⟨_, rfl⟩
          replace H : (mutoscopelaw5_KeyShifts.l1 k2 a3 (y496.set (x65_2 : Int).toNat (⟨(rd_T34 y496 x65_2).f0, (rd_T34 y496 x65_2).f1, (rd_T34 y496 x65_2).f2, (⟨(rd_T34 x12_1 x65_2).f3.f0, (rd_T34 x12_1 x65_2).f3.f1, (rd_T34 x12_1 x65_2).f3.f2, (rd_T34 x12_1 x65_2).f3.f3⟩ : S23)⟩ : S34)) (Go.bits .and .i64 a1 1023) (Int.tmod a2 65536) x12_1 x13_1 (t473.length : Int) (wrap64 (x65_2 + 1))) = some r := by first | (rw [hy496]; with_reducible exact H) | (have H2_ := (Option.bind_some _ _).symm.trans H; rw [hy496]; with_reducible exact H2_) | (have H2_ := (Option.bind_some _ _).symm.trans H; with_reducible exact H2_) | with_reducible exact H | (rw [hy496]; exact H) | exact H
          have Ny496 := Aside0.mk hy496
          clear hy496
          obtain ⟨y497, hy497⟩ : ∃ y_ : List (S34), y_ = (y496.set (x65_2 : Int).toNat (⟨(rd_T34 y496 x65_2).f0, (rd_T34 y496 x65_2).f1, (rd_T34 y496 x65_2).f2, (⟨(rd_T34 x12_1 x65_2).f3.f0, (rd_T34 x12_1 x65_2).f3.f1, (rd_T34 x12_1 x65_2).f3.f2, (rd_T34 x12_1 x65_2).f3.f3⟩ : S23)⟩ : S34)) := ⟨_, rfl⟩
          replace H : (mutoscopelaw5_KeyShifts.l1 k2 a3 y497 (Go.bits .and .i64 a1 1023) (Int.tmod a2 65536) x12_1 x13_1 (t473.length : Int) (wrap64 (x65_2 + 1))) = some r := by first | (rw [hy497]; with_reducible exact H) | (have H2_ := (Option.bind_some _ _).symm.trans H; rw [hy497]; with_reducible exact H2_) | (have H2_ := (Option.bind_some _ _).symm.trans H; with_reducible exact H2_) | with_reducible exact H | (rw [hy497]; exact H) | exact H
          have Ny497 := Aside0.mk hy497
          clear hy497
          have H' := Aside0.mk H
          clear H
          obtain ⟨Ao64, co64, eo64⟩ := Kd.R_slice HO_12.out
          subst eo64
          have p492 : 0 ≤ (x65_2 : Int) := of_decide_eq_true (by first | (with_reducible assumption) | assumption)
          have q492 : x65_2 < (x12_1.length : Int) := of_decide_eq_true (by first | (with_reducible assumption) | assumption)
          obtain ⟨ad492, e492, hx492_0, hx492_1, hx492_2, hx492_3, hx492_4, hx492_5, hx492_6⟩ := at_T34 (Kd.R_reads' HO_12.out).2.2 x65_2 p492 q492
          cases e492
          replace p492 := eq_true p492
          replace q492 := eq_true q492
          have p61 : 0 ≤ (x65_2 : Int) := of_decide_eq_true (by first | (with_reducible assumption) | assumption)
          have q61 : (x65_2 : Int) < ((x9_2.length : Int) : Int) := of_decide_eq_true (by first | (with_reducible assumption) | assumption)
          obtain ⟨go61, co61, eo61, gb61, gl61, cl61, HG61⟩ := Kd.R_form HO_9.out (by omega)
          (first | cases eo61 | (injection eo61 with ea_ en_ ec_; (first | subst ea_ | (injection ea_ with ea_; subst ea_)); subst ec_; clear en_))
          have GB61 := Aside0.mk gb61
          have GG61 := Aside0.mk HG61
          clear gb61 gl61 HG61
          obtain ⟨ce61, hcl61, hM61, hcc61, hfr61⟩ := Kd.R_elem HO_9.out z34 (x65_2 : Int) p61 q61
          obtain rfl := k34_openM hM61
          have hx61_0 : wr.cell? ⟨go61, (x65_2 : Int).toNat * 7, none⟩ = some (.int .i64 ((rd_T34 x9_2 x65_2).f0)) := hcc61 0 _ rfl
          have hx61_1 : wr.cell? ⟨go61, (x65_2 : Int).toNat * 7 + 1, none⟩ = some (.int .i64 ((rd_T34 x9_2 x65_2).f1)) := hcc61 1 _ rfl
          have hx61_2 : wr.cell? ⟨go61, (x65_2 : Int).toNat * 7 + 2, none⟩ = some (.int .i64 ((rd_T34 x9_2 x65_2).f2)) := hcc61 2 _ rfl
          have hx61_3 : wr.cell? ⟨go61, (x65_2 : Int).toNat * 7 + 3, none⟩ = some (.int .i64 ((rd_T34 x9_2 x65_2).f3.f0)) := hcc61 3 _ rfl
          have hx61_4 : wr.cell? ⟨go61, (x65_2 : Int).toNat * 7 + 4, none⟩ = some (.int .i64 ((rd_T34 x9_2 x65_2).f3.f1)) := hcc61 4 _ rfl
          have hx61_5 : wr.cell? ⟨go61, (x65_2 : Int).toNat * 7 + 5, none⟩ = some (.int .i64 ((rd_T34 x9_2 x65_2).f3.f2)) := hcc61 5 _ rfl
          have hx61_6 : wr.cell? ⟨go61, (x65_2 : Int).toNat * 7 + 6, none⟩ = some (.int .i64 ((rd_T34 x9_2 x65_2).f3.f3)) := hcc61 6 _ rfl
          have hf61_0 : wr.frozen? ⟨go61, (x65_2 : Int).toNat * 7, none⟩ = false := hfr61 0
          have hf61_1 : wr.frozen? ⟨go61, (x65_2 : Int).toNat * 7 + 1, none⟩ = false := hfr61 1
          have hf61_2 : wr.frozen? ⟨go61, (x65_2 : Int).toNat * 7 + 2, none⟩ = false := hfr61 2
          have hf61_3 : wr.frozen? ⟨go61, (x65_2 : Int).toNat * 7 + 3, none⟩ = false := hfr61 3
          have hf61_4 : wr.frozen? ⟨go61, (x65_2 : Int).toNat * 7 + 4, none⟩ = false := hfr61 4
          have hf61_5 : wr.frozen? ⟨go61, (x65_2 : Int).toNat * 7 + 5, none⟩ = false := hfr61 5
          have hf61_6 : wr.frozen? ⟨go61, (x65_2 : Int).toNat * 7 + 6, none⟩ = false := hfr61 6
          clear hcl61 hcc61 hfr61 hM61
          replace p61 := eq_true p61
          replace q61 := eq_true q61
          have HX65 := MS.am (show Kd.R k34 34 wr w.heap.size (fun k_ => some k_ ≠ (.slice (some ad492) x12_1.length co64 : Value).ownBlock ∧ some k_ ≠ (u13 : Value).ownBlock) (.slice (some ⟨go61, 0, none⟩) x9_2.length co7) x9_2 from (by (with_reducible repeat first | apply Kd.R_alloc | apply Kd.R_drewN | apply Kd.R_drew); exact HO_9.out))
          obtain ⟨ce65, hcl65, hM65, hcc65, hfr65⟩ := Kd.R_elem HX65.out z34 (x65_2 : Int) (of_decide_eq_true (by first | (with_reducible assumption) | assumption)) (by have h_ : (x65_2 : Int) < ((x9_2.length : Int) : Int) := of_decide_eq_true (by first | (with_reducible assumption) | assumption); first | exact h_ | (have e_ := (Kd.R_reads' HO_9.out).1; omega) | simpa using h_)
          obtain rfl := k34_openM hM65
          have HP65 := Kd.R_seg HX65.out (x65_2 : Int) (of_decide_eq_true (by first | (with_reducible assumption) | assumption)) (by have h_ : (x65_2 : Int) < ((x9_2.length : Int) : Int) := of_decide_eq_true (by first | (with_reducible assumption) | assumption); first | exact h_ | (have e_ := (Kd.R_reads' HO_9.out).1; omega) | simpa using h_) (seg := [.int .i64 ((rd_T34 x12_1 x65_2).f1)]) (j := 1) hcl65 hcc65 (show 2 ≤ 7 from by decide) (x' := (⟨(rd_T34 x9_2 x65_2).f0, (rd_T34 x12_1 x65_2).f1, (rd_T34 x9_2 x65_2).f2, (⟨(rd_T34 x9_2 x65_2).f3.f0, (rd_T34 x9_2 x65_2).f3.f1, (rd_T34 x9_2 x65_2).f3.f2, (rd_T34 x9_2 x65_2).f3.f3⟩ : S23)⟩ : S34)) (k34_mkM _ _ _ (⟨(rd_T34 x9_2 x65_2).f0, (rd_T34 x12_1 x65_2).f1, (rd_T34 x9_2 x65_2).f2, (⟨(rd_T34 x9_2 x65_2).f3.f0, (rd_T34 x9_2 x65_2).f3.f1, (rd_T34 x9_2 x65_2).f3.f2, (rd_T34 x9_2 x65_2).f3.f3⟩ : S23)⟩ : S34) ) (fun _ hk => hk)
          have hx65_1 := hcc65 1 _ rfl
          (try simp only [show (k34).sz = 7 from rfl, Nat.mul_one, Nat.add_zero] at hx65_1)
          have hf65_1 := hfr65 1
          (try simp only [show (k34).sz = 7 from rfl, Nat.mul_one, Nat.add_zero] at hf65_1)
          clear hcl65 hcc65 hfr65 hM65
          try go_wp2_with (first | ((with_reducible refine gate_store (t := 2) (p := 76) rfl ?_); refine store_event (t := 2) (p := 76) (v := ?vo_w66) (w1 := (wr.setCell ⟨go61, (x65_2 : Int).toNat * 7 + 1, none⟩ (.int .i64 ((rd_T34 x12_1 x65_2).f1)))) ?hg ?ho ?hn ?hr ?_; (case ho => rfl); (case hg => rfl); (case hn => rfl); (case hr => first | (go_simp; done) | (go_simp; rfl)); intro w66 hw; have hg : wr.grownBy w66 (some go61) := (by rw [hw]; exact HP65.2); have hp_ : Kd.R k34 34 w66 w.heap.size (fun k_ => some k_ ≠ (.slice (some ad492) x12_1.length co64 : Value).ownBlock ∧ some k_ ≠ (u13 : Value).ownBlock) (.slice (some ⟨go61, 0, none⟩) x9_2.length co7) y493 := (by rw [hw, Ny493.out]; exact HP65.1); clear HP65; have n0_ := MS.am (hp_); have n1_ := MS.am (Kd.R_after (v := (.slice (some ⟨go61, 0, none⟩) x9_2.length co7)) (v1 := (.slice (some ⟨go61, 0, none⟩) x9_2.length co7)) (ok := (fun k_ => some k_ ≠ (u13 : Value).ownBlock)) (by (with_reducible repeat first | apply Kd.R_alloc | apply Kd.R_drewN | apply Kd.R_drew); exact Kd.R_mono HO_12.out (fun _ hk => ⟨hk.2, hk.1⟩)) hg (.inl rfl)); have n2_ := MS.am (Kd.R_after (v := (.slice (some ⟨go61, 0, none⟩) x9_2.length co7)) (v1 := (.slice (some ⟨go61, 0, none⟩) x9_2.length co7)) (ok := (fun k_ => some k_ ≠ (.slice (some ad492) x12_1.length co64 : Value).ownBlock)) (by (with_reducible repeat first | apply Kd.R_alloc | apply Kd.R_drewN | apply Kd.R_drew); exact Kd.R_mono HO_13.out (fun _ hk => ⟨hk.2, hk.1⟩)) hg (.inl rfl)); have n3_ := MS.am ((by rw [hw]; exact below_set (HB.out) GB61.out : Below w.heap.size w w66)); clear HO_9; clear HO_12; clear HO_13; clear HB; have HO_9 := n0_; have HO_12 := n1_; have HO_13 := n2_; have HB := n3_; clear n0_ n1_ n2_ n3_; clear hg hw hp_))
          have n0_ := MS.am (Kd.R_drew HO_9.out)
          have n1_ := MS.am (Kd.R_drew HO_12.out)
          have n2_ := MS.am (Kd.R_drew HO_13.out)
          have n3_ := MS.am (below_drew1 HB.out)
          clear HO_9
          clear HO_12
          clear HO_13
          clear HB
          have HO_9 := n0_
          have HO_12 := n1_
          have HO_13 := n2_
          have HB := n3_
          clear n0_ n1_ n2_ n3_
          have p494 : 0 ≤ (x65_2 : Int) := of_decide_eq_true (by first | (with_reducible assumption) | assumption)
          have q494 : x65_2 < (x12_1.length : Int) := of_decide_eq_true (by first | (with_reducible assumption) | assumption)
          obtain ⟨ad494, e494, hx494_0, hx494_1, hx494_2, hx494_3, hx494_4, hx494_5, hx494_6⟩ := at_T34 (Kd.R_reads' HO_12.out).2.2 x65_2 p494 q494
          obtain rfl : ad492 = ad494 := (by injection e494)
          replace p494 := eq_true p494
          replace q494 := eq_true q494
          have p495 : 0 ≤ (x65_2 : Int) := of_decide_eq_true (by first | (with_reducible assumption) | assumption)
          have q495 : x65_2 < (x12_1.length : Int) := of_decide_eq_true (by first | (with_reducible assumption) | assumption)
          obtain ⟨ad495, e495, hx495_0, hx495_1, hx495_2, hx495_3, hx495_4, hx495_5, hx495_6⟩ := at_T34 (Kd.R_reads' HO_12.out).2.2 x65_2 p495 q495
          obtain rfl : ad492 = ad495 := (by injection e495)
          replace p495 := eq_true p495
          replace q495 := eq_true q495
          have p62 : 0 ≤ (x65_2 : Int) := of_decide_eq_true (by first | (with_reducible assumption) | assumption)
          have q62 : (x65_2 : Int) < ((x9_2.length : Int) : Int) := of_decide_eq_true (by first | (with_reducible assumption) | assumption)
          obtain ⟨ce62, hcl62, hM62, hcc62, hfr62⟩ := Kd.R_elem HO_9.out z34 (x65_2 : Int) p62 q62
          obtain rfl := k34_openM hM62
          have hx62_0 : World.cell? _ ⟨go61, (x65_2 : Int).toNat * 7, none⟩ = some (.int .i64 ((rd_T34 y493 x65_2).f0)) := hcc62 0 _ rfl
          have hx62_1 : World.cell? _ ⟨go61, (x65_2 : Int).toNat * 7 + 1, none⟩ = some (.int .i64 ((rd_T34 y493 x65_2).f1)) := hcc62 1 _ rfl
          have hx62_2 : World.cell? _ ⟨go61, (x65_2 : Int).toNat * 7 + 2, none⟩ = some (.int .i64 ((rd_T34 y493 x65_2).f2)) := hcc62 2 _ rfl
          have hx62_3 : World.cell? _ ⟨go61, (x65_2 : Int).toNat * 7 + 3, none⟩ = some (.int .i64 ((rd_T34 y493 x65_2).f3.f0)) := hcc62 3 _ rfl
          have hx62_4 : World.cell? _ ⟨go61, (x65_2 : Int).toNat * 7 + 4, none⟩ = some (.int .i64 ((rd_T34 y493 x65_2).f3.f1)) := hcc62 4 _ rfl
          have hx62_5 : World.cell? _ ⟨go61, (x65_2 : Int).toNat * 7 + 5, none⟩ = some (.int .i64 ((rd_T34 y493 x65_2).f3.f2)) := hcc62 5 _ rfl
          have hx62_6 : World.cell? _ ⟨go61, (x65_2 : Int).toNat * 7 + 6, none⟩ = some (.int .i64 ((rd_T34 y493 x65_2).f3.f3)) := hcc62 6 _ rfl
          have hf62_0 : World.frozen? _ ⟨go61, (x65_2 : Int).toNat * 7, none⟩ = false := hfr62 0
          have hf62_1 : World.frozen? _ ⟨go61, (x65_2 : Int).toNat * 7 + 1, none⟩ = false := hfr62 1
          have hf62_2 : World.frozen? _ ⟨go61, (x65_2 : Int).toNat * 7 + 2, none⟩ = false := hfr62 2
          have hf62_3 : World.frozen? _ ⟨go61, (x65_2 : Int).toNat * 7 + 3, none⟩ = false := hfr62 3
          have hf62_4 : World.frozen? _ ⟨go61, (x65_2 : Int).toNat * 7 + 4, none⟩ = false := hfr62 4
          have hf62_5 : World.frozen? _ ⟨go61, (x65_2 : Int).toNat * 7 + 5, none⟩ = false := hfr62 5
          have hf62_6 : World.frozen? _ ⟨go61, (x65_2 : Int).toNat * 7 + 6, none⟩ = false := hfr62 6
          clear hcl62 hcc62 hfr62 hM62
          replace p62 := eq_true p62
          replace q62 := eq_true q62
          obtain ⟨ce68, hcl68, hM68, hcc68, hfr68⟩ := Kd.R_elem HO_9.out z34 (x65_2 : Int) (of_decide_eq_true (by first | (with_reducible assumption) | assumption)) (by have h_ : (x65_2 : Int) < ((x9_2.length : Int) : Int) := of_decide_eq_true (by first | (with_reducible assumption) | assumption); first | exact h_ | (have e_ := (Kd.R_reads' HO_9.out).1; omega) | simpa using h_)
          obtain rfl := k34_openM hM68
          have HP68 := (Kd.R_seg HO_9.out (x65_2 : Int) (of_decide_eq_true (by first | (with_reducible assumption) | assumption)) (by have h_ : (x65_2 : Int) < ((x9_2.length : Int) : Int) := of_decide_eq_true (by first | (with_reducible assumption) | assumption); first | exact h_ | (have e_ := (Kd.R_reads' HO_9.out).1; omega) | simpa using h_) (seg := [.int .i64 ((rd_T34 x12_1 x65_2).f2)]) (j := 2) hcl68 hcc68 (show 3 ≤ 7 from by decide) (x' := (⟨(rd_T34 y493 x65_2).f0, (rd_T34 y493 x65_2).f1, (rd_T34 x12_1 x65_2).f2, (⟨(rd_T34 y493 x65_2).f3.f0, (rd_T34 y493 x65_2).f3.f1, (rd_T34 y493 x65_2).f3.f2, (rd_T34 y493 x65_2).f3.f3⟩ : S23)⟩ : S34)) (k34_mkM _ _ _ (⟨(rd_T34 y493 x65_2).f0, (rd_T34 y493 x65_2).f1, (rd_T34 x12_1 x65_2).f2, (⟨(rd_T34 y493 x65_2).f3.f0, (rd_T34 y493 x65_2).f3.f1, (rd_T34 y493 x65_2).f3.f2, (rd_T34 y493 x65_2).f3.f3⟩ : S23)⟩ : S34) ) (fun _ hk => hk)).1
          rw [← Ny496.out] at HP68
          have HQ68 := Aside0.mk HP68
          clear hcl68 hcc68 hfr68 hM68 HP68
          have p63 : 0 ≤ (x65_2 : Int) := of_decide_eq_true (by first | (with_reducible assumption) | assumption)
          have q63 : (x65_2 : Int) < ((x9_2.length : Int) : Int) := of_decide_eq_true (by first | (with_reducible assumption) | assumption)
          replace p63 := eq_true p63
          replace q63 := eq_true q63
          obtain ⟨ce69, hcl69, hM69, hcc69, hfr69⟩ := Kd.R_elem HQ68.out z34 (x65_2 : Int) (of_decide_eq_true (by first | (with_reducible assumption) | assumption)) (by have h_ : (x65_2 : Int) < ((x9_2.length : Int) : Int) := of_decide_eq_true (by first | (with_reducible assumption) | assumption); first | exact h_ | (have e_ := (Kd.R_reads' HO_9.out).1; omega) | simpa using h_)
          obtain rfl := k34_openM hM69
          have HP69 := (Kd.R_seg HQ68.out (x65_2 : Int) (of_decide_eq_true (by first | (with_reducible assumption) | assumption)) (by have h_ : (x65_2 : Int) < ((x9_2.length : Int) : Int) := of_decide_eq_true (by first | (with_reducible assumption) | assumption); first | exact h_ | (have e_ := (Kd.R_reads' HO_9.out).1; omega) | simpa using h_) (seg := [.int .i64 ((rd_T34 x12_1 x65_2).f3.f0), .int .i64 ((rd_T34 x12_1 x65_2).f3.f1), .int .i64 ((rd_T34 x12_1 x65_2).f3.f2), .int .i64 ((rd_T34 x12_1 x65_2).f3.f3)]) (j := 3) hcl69 hcc69 (show 7 ≤ 7 from by decide) (x' := (⟨(rd_T34 y496 x65_2).f0, (rd_T34 y496 x65_2).f1, (rd_T34 y496 x65_2).f2, (⟨(rd_T34 x12_1 x65_2).f3.f0, (rd_T34 x12_1 x65_2).f3.f1, (rd_T34 x12_1 x65_2).f3.f2, (rd_T34 x12_1 x65_2).f3.f3⟩ : S23)⟩ : S34)) (k34_mkM _ _ _ (⟨(rd_T34 y496 x65_2).f0, (rd_T34 y496 x65_2).f1, (rd_T34 y496 x65_2).f2, (⟨(rd_T34 x12_1 x65_2).f3.f0, (rd_T34 x12_1 x65_2).f3.f1, (rd_T34 x12_1 x65_2).f3.f2, (rd_T34 x12_1 x65_2).f3.f3⟩ : S23)⟩ : S34) ) (fun _ hk => hk)).1
          rw [← Ny497.out] at HP69
          have HQ69 := Aside0.mk HP69
          clear hcl69 hcc69 hfr69 hM69 HP69
          refine start_ (n := 20) (S := fun w' => w'.cell? (ad492.add ((x65_2).toNat * 7)) = some (.int .i64 ((rd_T34 x12_1 x65_2).f0)) ∧ w'.cell? ⟨(ad492.add ((x65_2).toNat * 7)).block, (ad492.add ((x65_2).toNat * 7)).off + 1, none⟩ = some (.int .i64 ((rd_T34 x12_1 x65_2).f1)) ∧ w'.cell? ⟨(ad492.add ((x65_2).toNat * 7)).block, (ad492.add ((x65_2).toNat * 7)).off + 2, none⟩ = some (.int .i64 ((rd_T34 x12_1 x65_2).f2)) ∧ w'.cell? ⟨(ad492.add ((x65_2).toNat * 7)).block, (ad492.add ((x65_2).toNat * 7)).off + 3, none⟩ = some (.int .i64 ((rd_T34 x12_1 x65_2).f3.f0)) ∧ w'.cell? ⟨(ad492.add ((x65_2).toNat * 7)).block, (ad492.add ((x65_2).toNat * 7)).off + 4, none⟩ = some (.int .i64 ((rd_T34 x12_1 x65_2).f3.f1)) ∧ w'.cell? ⟨(ad492.add ((x65_2).toNat * 7)).block, (ad492.add ((x65_2).toNat * 7)).off + 5, none⟩ = some (.int .i64 ((rd_T34 x12_1 x65_2).f3.f2)) ∧ w'.cell? ⟨(ad492.add ((x65_2).toNat * 7)).block, (ad492.add ((x65_2).toNat * 7)).off + 6, none⟩ = some (.int .i64 ((rd_T34 x12_1 x65_2).f3.f3)) ∧ w'.cell? (ad492.add ((x65_2).toNat * 7)) = some (.int .i64 ((rd_T34 x12_1 x65_2).f0)) ∧ w'.cell? ⟨(ad492.add ((x65_2).toNat * 7)).block, (ad492.add ((x65_2).toNat * 7)).off + 1, none⟩ = some (.int .i64 ((rd_T34 x12_1 x65_2).f1)) ∧ w'.cell? ⟨(ad492.add ((x65_2).toNat * 7)).block, (ad492.add ((x65_2).toNat * 7)).off + 2, none⟩ = some (.int .i64 ((rd_T34 x12_1 x65_2).f2)) ∧ w'.cell? ⟨(ad492.add ((x65_2).toNat * 7)).block, (ad492.add ((x65_2).toNat * 7)).off + 3, none⟩ = some (.int .i64 ((rd_T34 x12_1 x65_2).f3.f0)) ∧ w'.cell? ⟨(ad492.add ((x65_2).toNat * 7)).block, (ad492.add ((x65_2).toNat * 7)).off + 4, none⟩ = some (.int .i64 ((rd_T34 x12_1 x65_2).f3.f1)) ∧ w'.cell? ⟨(ad492.add ((x65_2).toNat * 7)).block, (ad492.add ((x65_2).toNat * 7)).off + 5, none⟩ = some (.int .i64 ((rd_T34 x12_1 x65_2).f3.f2)) ∧ w'.cell? ⟨(ad492.add ((x65_2).toNat * 7)).block, (ad492.add ((x65_2).toNat * 7)).off + 6, none⟩ = some (.int .i64 ((rd_T34 x12_1 x65_2).f3.f3))) (ds := [16, 19]) #[false, false, false, false, false, false, false, false, false, false, false, false, false, false, false, false, false, false, false, false] (by kernel_rfl) rfl rfl ⟨hx494_0, hx494_1, hx494_2, hx494_3, hx494_4, hx494_5, hx494_6, hx495_0, hx495_1, hx495_2, hx495_3, hx495_4, hx495_5, hx495_6⟩ (fun hHeld => ?_); refine with_tabW mutoscopelaw5_KeyShifts.tab19 mutoscopelaw5_KeyShifts.bits19 (fun HT_ HW_ => ?_)
          generalize w66.drew = w67 at HO_9 HO_12 HO_13 HB HQ68 HQ69 hf62_0 hf62_1 hf62_2 hf62_3 hf62_4 hf62_5 hf62_6 hx494_0 hx494_1 hx494_2 hx494_3 hx494_4 hx494_5 hx494_6 hx495_0 hx495_1 hx495_2 hx495_3 hx495_4 hx495_5 hx495_6 hx62_0 hx62_1 hx62_2 hx62_3 hx62_4 hx62_5 hx62_6 hHeld ⊢
          refine pure_ (i := 0) (N := some 77) (v := ?_) (a' := ?_) #[true, false, false, false, false, false, false, false, false, false, false, false, false, false, false, false, false, false, false, false] rfl rfl (any_of HT_.out (by kernel_rfl)) (fun _ _ _ h => h) (Or.inl ⟨by rfl, ?_⟩) ?_ ?_
          rotate_left
          ·intro w'
           go_simp
           with_reducible rfl
          rotate_left
          ·simp only [Act.put, List.setIfInBounds_toArray, List.set_cons_zero, List.set_cons_succ, i64_w, i32_w]
           rfl
          refine pure_ (i := 1) (N := some 78) (v := ?_) (a' := ?_) #[true, true, false, false, false, false, false, false, false, false, false, false, false, false, false, false, false, false, false, false] rfl rfl (any_of HT_.out (by kernel_rfl)) (fun _ _ _ h => h) (Or.inl ⟨by rfl, ?_⟩) ?_ ?_
          rotate_left
          ·intro w'
           go_simp
           with_reducible rfl
          rotate_left
          ·simp only [Act.put, List.setIfInBounds_toArray, List.set_cons_zero, List.set_cons_succ, i64_w, i32_w]
           rfl
          refine pure_ (i := 2) (N := some 79) (v := ?_) (a' := ?_) #[true, true, true, false, false, false, false, false, false, false, false, false, false, false, false, false, false, false, false, false] rfl rfl (any_of HT_.out (by kernel_rfl)) (fun _ _ _ h => h) (Or.inl ⟨by rfl, ?_⟩) ?_ ?_
          rotate_left
          ·intro w'
           go_simp
           with_reducible rfl
          rotate_left
          ·simp only [Act.put, List.setIfInBounds_toArray, List.set_cons_zero, List.set_cons_succ, i64_w, i32_w]
           rfl
          refine pure_ (i := 3) (N := some 80) (v := ?_) (a' := ?_) #[true, true, true, true, false, false, false, false, false, false, false, false, false, false, false, false, false, false, false, false] rfl rfl (any_of HT_.out (by kernel_rfl)) (fun _ _ _ h => h) (Or.inl ⟨by rfl, ?_⟩) ?_ ?_
          rotate_left
          ·intro w'
           go_simp
           with_reducible rfl
          rotate_left
          ·simp only [Act.put, List.setIfInBounds_toArray, List.set_cons_zero, List.set_cons_succ, i64_w, i32_w]
           rfl
          refine pure_ (i := 4) (N := some 81) (v := ?_) (a' := ?_) #[true, true, true, true, true, false, false, false, false, false, false, false, false, false, false, false, false, false, false, false] rfl rfl (any_of HT_.out (by kernel_rfl)) (fun _ _ _ h => h) (Or.inl ⟨by rfl, ?_⟩) ?_ ?_
          rotate_left
          ·intro w'
           go_simp
           with_reducible rfl
          rotate_left
          ·simp only [Act.put, List.setIfInBounds_toArray, List.set_cons_zero, List.set_cons_succ, i64_w, i32_w]
           rfl
          refine pure_ (i := 5) (N := some 82) (v := ?_) (a' := ?_) #[true, true, true, true, true, true, false, false, false, false, false, false, false, false, false, false, false, false, false, false] rfl rfl (any_of HT_.out (by kernel_rfl)) (fun _ _ _ h => h) (Or.inl ⟨by rfl, ?_⟩) ?_ ?_
          rotate_left
          ·intro w'
           go_simp
           with_reducible rfl
          rotate_left
          ·simp only [Act.put, List.setIfInBounds_toArray, List.set_cons_zero, List.set_cons_succ, i64_w, i32_w]
           rfl
          refine pure_ (i := 6) (N := some 83) (v := ?_) (a' := ?_) #[true, true, true, true, true, true, true, false, false, false, false, false, false, false, false, false, false, false, false, false] rfl rfl (any_of HT_.out (by kernel_rfl)) (fun _ _ _ h => h) (Or.inl ⟨by rfl, ?_⟩) ?_ ?_
          rotate_left
          ·intro w'
           go_simp
           with_reducible rfl
          rotate_left
          ·simp only [Act.put, List.setIfInBounds_toArray, List.set_cons_zero, List.set_cons_succ, i64_w, i32_w]
           rfl
          refine pure_ (i := 7) (N := some 84) (v := ?_) (a' := ?_) #[true, true, true, true, true, true, true, true, false, false, false, false, false, false, false, false, false, false, false, false] rfl rfl (any_of HT_.out (by kernel_rfl)) (fun _ _ _ h => h) (Or.inl ⟨by rfl, ?_⟩) ?_ ?_
          rotate_left
          ·intro w'
           go_simp
           with_reducible rfl
          rotate_left
          ·simp only [Act.put, List.setIfInBounds_toArray, List.set_cons_zero, List.set_cons_succ, i64_w, i32_w]
           rfl
          refine pure_ (i := 9) (N := some 86) (v := ?_) (a' := ?_) #[true, true, true, true, true, true, true, true, false, true, false, false, false, false, false, false, false, false, false, false] rfl rfl (any_of HT_.out (by kernel_rfl)) (fun _ _ _ h => h) (Or.inl ⟨by rfl, ?_⟩) ?_ ?_
          rotate_left
          ·intro w'
           go_simp
           with_reducible rfl
          rotate_left
          ·simp only [Act.put, List.setIfInBounds_toArray, List.set_cons_zero, List.set_cons_succ, i64_w, i32_w]
           rfl
          refine pure_ (i := 10) (N := some 87) (v := ?_) (a' := ?_) #[true, true, true, true, true, true, true, true, false, true, true, false, false, false, false, false, false, false, false, false] rfl rfl (any_of HT_.out (by kernel_rfl)) (fun _ _ _ h => h) (Or.inl ⟨by rfl, ?_⟩) ?_ ?_
          rotate_left
          ·intro w'
           go_simp
           with_reducible rfl
          rotate_left
          ·simp only [Act.put, List.setIfInBounds_toArray, List.set_cons_zero, List.set_cons_succ, i64_w, i32_w]
           rfl
          refine pure_ (i := 11) (N := some 88) (v := ?_) (a' := ?_) #[true, true, true, true, true, true, true, true, false, true, true, true, false, false, false, false, false, false, false, false] rfl rfl (any_of HT_.out (by kernel_rfl)) (fun _ _ _ h => h) (Or.inl ⟨by rfl, ?_⟩) ?_ ?_
          rotate_left
          ·intro w'
           go_simp
           with_reducible rfl
          rotate_left
          ·simp only [Act.put, List.setIfInBounds_toArray, List.set_cons_zero, List.set_cons_succ, i64_w, i32_w]
           rfl
          refine pure_ (i := 12) (N := some 89) (v := ?_) (a' := ?_) #[true, true, true, true, true, true, true, true, false, true, true, true, true, false, false, false, false, false, false, false] rfl rfl (any_of HT_.out (by kernel_rfl)) (fun _ _ _ h => h) (Or.inl ⟨by rfl, ?_⟩) ?_ ?_
          rotate_left
          ·intro w'
           go_simp
           with_reducible rfl
          rotate_left
          ·simp only [Act.put, List.setIfInBounds_toArray, List.set_cons_zero, List.set_cons_succ, i64_w, i32_w]
           rfl
          refine take_ (i := 8) (N := some 85) (v := ?_) (a' := ?_) #[true, true, true, true, true, true, true, true, true, true, true, true, true, false, false, false, false, false, false, false] rfl rfl (take_ofW HT_.out HW_.out (by kernel_rfl)) (fun _ _ _ h => h) (Or.inl ⟨by rfl, ?_⟩) hHeld ?_ ?_
          rotate_left
          ·rintro w' ⟨s0, s1, s2, s3, s4, s5, s6, s7, s8, s9, s10, s11, s12, s13⟩
           go_simp
           with_reducible rfl
          rotate_left
          ·simp only [Act.put, List.setIfInBounds_toArray, List.set_cons_zero, List.set_cons_succ, i64_w, i32_w]
           rfl
          refine take_ (i := 13) (N := some 90) (v := ?_) (a' := ?_) #[true, true, true, true, true, true, true, true, true, true, true, true, true, true, false, false, false, false, false, false] rfl rfl (take_ofW HT_.out HW_.out (by kernel_rfl)) (fun _ _ _ h => h) (Or.inl ⟨by rfl, ?_⟩) hHeld ?_ ?_
          rotate_left
          ·rintro w' ⟨s0, s1, s2, s3, s4, s5, s6, s7, s8, s9, s10, s11, s12, s13⟩
           go_simp
           with_reducible rfl
          rotate_left
          ·simp only [Act.put, List.setIfInBounds_toArray, List.set_cons_zero, List.set_cons_succ, i64_w, i32_w]
           rfl
          refine pure_ (i := 14) (N := some 91) (v := ?_) (a' := ?_) #[true, true, true, true, true, true, true, true, true, true, true, true, true, true, true, false, false, false, false, false] rfl rfl (any_of HT_.out (by kernel_rfl)) (fun _ _ _ h => h) (Or.inl ⟨by rfl, ?_⟩) ?_ ?_
          rotate_left
          ·intro w'
           go_simp
           with_reducible rfl
          rotate_left
          ·simp only [Act.put, List.setIfInBounds_toArray, List.set_cons_zero, List.set_cons_succ, i64_w, i32_w]
           rfl
          refine pure_ (i := 15) (N := some 92) (v := ?_) (a' := ?_) #[true, true, true, true, true, true, true, true, true, true, true, true, true, true, true, true, false, false, false, false] rfl rfl (any_of HT_.out (by kernel_rfl)) (fun _ _ _ h => h) (Or.inl ⟨by rfl, ?_⟩) ?_ ?_
          rotate_left
          ·intro w'
           go_simp
           with_reducible rfl
          rotate_left
          ·simp only [Act.put, List.setIfInBounds_toArray, List.set_cons_zero, List.set_cons_succ, i64_w, i32_w]
           rfl
          refine last_ (i := 16) (N := none) #[true, true, true, true, true, true, true, true, true, true, true, true, true, true, true, true, true, false, false, false] rfl rfl (one_of HT_.out (by kernel_rfl)) (by decide) (fun K hK => ?_)
          refine skip_ (w1 := ?_) ?_ ?_ ?_ ?_
          rotate_left
          ·rfl
          ·rfl
          ·go_simp
           rfl
          refine hK.out _ _ ?_
          clear hK K
          refine pure_ (i := 17) (N := some 93) (v := ?_) (a' := ?_) #[true, true, true, true, true, true, true, true, true, true, true, true, true, true, true, true, true, true, false, false] rfl rfl (any_of HT_.out (by kernel_rfl)) (fun _ _ _ h => h) (Or.inl ⟨by rfl, ?_⟩) ?_ ?_
          rotate_left
          ·intro w'
           go_simp
           with_reducible rfl
          rotate_left
          ·simp only [Act.put, List.setIfInBounds_toArray, List.set_cons_zero, List.set_cons_succ, i64_w, i32_w]
           rfl
          refine pure_ (i := 18) (N := some 94) (v := ?_) (a' := ?_) #[true, true, true, true, true, true, true, true, true, true, true, true, true, true, true, true, true, true, true, false] rfl rfl (any_of HT_.out (by kernel_rfl)) (fun _ _ _ h => h) (Or.inl ⟨by rfl, ?_⟩) ?_ ?_
          rotate_left
          ·intro w'
           go_simp
           with_reducible rfl
          rotate_left
          ·simp only [Act.put, List.setIfInBounds_toArray, List.set_cons_zero, List.set_cons_succ, i64_w, i32_w]
           rfl
          refine last_ (i := 19) (N := none) #[true, true, true, true, true, true, true, true, true, true, true, true, true, true, true, true, true, true, true, true] rfl rfl (one_of HT_.out (by kernel_rfl)) (by decide) (fun K hK => ?_)
          refine skip_ (w1 := ?_) ?_ ?_ ?_ ?_
          rotate_left
          ·rfl
          ·rfl
          ·go_simp
           rfl
          refine hK.out _ _ ?_
          clear hK K
          refine done_ (done_of HT_.out (by kernel_rfl)) ?_
          try go_wp2
          (try simp only [← hl9_2])
          go_roundg k2
          case measure => have := HK1.out; have := HK2.out; omega
          case rel => exact ⟨(y497), (wrap64 (x65_2 + 1)), (by first | rfl | (simp; done) | simp [*]), H', ⟨by have := HK1.out; have := HK2.out; omega⟩, ⟨by (try simp only [hl9_2]); (with_reducible repeat first | apply Kd.R_alloc | apply Kd.R_drewN | apply Kd.R_drew); exact HQ69.out⟩, ⟨by (try simp only [hl9_2]); (with_reducible repeat first | apply Kd.R_alloc | apply Kd.R_drewN | apply Kd.R_drew); exact Kd.R_mono (Kd.R_far (p := ⟨go61, (x65_2 : Int).toNat * 7 + 6, none⟩) (Kd.R_far (p := ⟨go61, (x65_2 : Int).toNat * 7 + 5, none⟩) (Kd.R_far (p := ⟨go61, (x65_2 : Int).toNat * 7 + 4, none⟩) (Kd.R_far (p := ⟨go61, (x65_2 : Int).toNat * 7 + 3, none⟩) (Kd.R_far (p := ⟨go61, (x65_2 : Int).toNat * 7 + 2, none⟩) (Kd.R_mono HO_12.out (fun k_ hk => (⟨hk, fun e_ => hk.2 (by rw [e_]; rfl)⟩ : _ ∧ k_ ≠ go61))) (fun _ hk => hk.2) (.int .i64 ((rd_T34 x12_1 x65_2).f2))) (fun _ hk => hk.2) (.int .i64 ((rd_T34 x12_1 x65_2).f3.f0))) (fun _ hk => hk.2) (.int .i64 ((rd_T34 x12_1 x65_2).f3.f1))) (fun _ hk => hk.2) (.int .i64 ((rd_T34 x12_1 x65_2).f3.f2))) (fun _ hk => hk.2) (.int .i64 ((rd_T34 x12_1 x65_2).f3.f3))) (fun _ hk => ⟨hk.1.2, hk.1.1⟩)⟩, ⟨by (try simp only [hl9_2]); (with_reducible repeat first | apply Kd.R_alloc | apply Kd.R_drewN | apply Kd.R_drew); exact Kd.R_mono (Kd.R_far (p := ⟨go61, (x65_2 : Int).toNat * 7 + 6, none⟩) (Kd.R_far (p := ⟨go61, (x65_2 : Int).toNat * 7 + 5, none⟩) (Kd.R_far (p := ⟨go61, (x65_2 : Int).toNat * 7 + 4, none⟩) (Kd.R_far (p := ⟨go61, (x65_2 : Int).toNat * 7 + 3, none⟩) (Kd.R_far (p := ⟨go61, (x65_2 : Int).toNat * 7 + 2, none⟩) (Kd.R_mono HO_13.out (fun k_ hk => (⟨hk, fun e_ => hk.2 (by rw [e_]; rfl)⟩ : _ ∧ k_ ≠ go61))) (fun _ hk => hk.2) (.int .i64 ((rd_T34 x12_1 x65_2).f2))) (fun _ hk => hk.2) (.int .i64 ((rd_T34 x12_1 x65_2).f3.f0))) (fun _ hk => hk.2) (.int .i64 ((rd_T34 x12_1 x65_2).f3.f1))) (fun _ hk => hk.2) (.int .i64 ((rd_T34 x12_1 x65_2).f3.f2))) (fun _ hk => hk.2) (.int .i64 ((rd_T34 x12_1 x65_2).f3.f3))) (fun _ hk => ⟨hk.1.2, hk.1.1⟩)⟩, ⟨by repeat (first | (with_reducible first | exact HB.out | apply below_alloc | apply pw_below_drewN | apply below_drew1 | refine below_set ?_ GB61.out | refine below_set ?_ GB61.out | refine below_set ?_ GB61.out | refine below_set ?_ GB61.out | refine below_set ?_ GB61.out) | exact HB.out)⟩⟩
         ·rw [if_neg c60] at H
          exact absurd H (by simp)
        ·rw [if_neg c59] at H
         exact absurd H (by simp)
       ·rw [if_neg c58] at H
        exact absurd H (by simp)
      ·rw [if_neg c57] at H
       have c57b0 : decide (x65_2 < (t473.length : Int)) = false := decide_eq_false c57
       have c57b9 := c57b0
       rw [hl9_2] at c57b9
       clear c57
       replace H := Option.bind_eq_some_iff.mp H
       obtain ⟨t498, A700, H⟩ := H
       replace H : ((key_At.f k2 x9_2 (Go.bits .and .i64 a3 255) 5).bind fun t499 => (if t498 = t499 then (if (x9_2.length : Int) = 0 then ((mutoscopelaw5_known.f k2).bind fun t500 => (some t500)) else ((key_At.f k2 x13_1 (Go.bits .and .i64 a3 255) 0).bind fun t501 => ((key_At.f k2 x9_2 (Go.bits .and .i64 a3 255) 0).bind fun t502 => (if t501 = (wrap64 (t502 + (Int.tmod a2 65536))) then ((mutoscopelaw5_known.f k2).bind fun t503 => (some t503)) else (none))))) else (none))) = some r := H
       have A70 := Aside0.mk A700
       clear A700
       replace H := Option.bind_eq_some_iff.mp H
       obtain ⟨t499, A710, H⟩ := H
       replace H : (if t498 = t499 then (if (x9_2.length : Int) = 0 then ((mutoscopelaw5_known.f k2).bind fun t500 => (some t500)) else ((key_At.f k2 x13_1 (Go.bits .and .i64 a3 255) 0).bind fun t501 => ((key_At.f k2 x9_2 (Go.bits .and .i64 a3 255) 0).bind fun t502 => (if t501 = (wrap64 (t502 + (Int.tmod a2 65536))) then ((mutoscopelaw5_known.f k2).bind fun t503 => (some t503)) else (none))))) else (none)) = some r := H
       have A71 := Aside0.mk A710
       clear A710
       by_cases c72 : t498 = t499
       ·rw [if_pos c72] at H
        have c72b0 : (t498 == t499) = true := beq_iff_eq.mpr c72
        have c72b1 : (t498 != t499) = false := bne_eq_false_iff_eq.mpr c72
        clear c72
        by_cases c73 : (x9_2.length : Int) = 0
        ·rw [if_pos c73] at H
         have c73b0 : ((x9_2.length : Int) == 0) = true := beq_iff_eq.mpr c73
         have c73b1 : ((x9_2.length : Int) != 0) = false := bne_eq_false_iff_eq.mpr c73
         clear c73
         replace H := Option.bind_eq_some_iff.mp H
         obtain ⟨t500, A740, H⟩ := H
         replace H : (some t500) = some r := H
         have A74 := Aside0.mk A740
         clear A740
         obtain rfl := Option.some.inj H
         obtain ⟨Ao75, co75, eo75⟩ := Kd.R_slice HO_12.out
         subst eo75
         go_wp2_with (first | ((with_reducible refine gate_callee (f := 18) rfl ?_); refine goesL_ (some 102) rfl rfl Try.func18 (by kernel_rfl) rfl #[.slice Ao75 x12_1.length co75, .int .i64 (wrap64 ((Go.bits .and .i64 a3 255) + (Go.bits .and .i64 a1 1023))), .int .i64 5] rfl (by (try simp only [List.map_toArray, List.map_cons, List.map_nil]); first | done | rfl | (simp only [List.length_drop, List.length_take]; rfl)) ?_; (with_reducible refine (key_At.calls k2 _ _ x12_1 (wrap64 ((Go.bits .and .i64 a3 255) + (Go.bits .and .i64 a1 1023))) 5 t498 _ ?side1 ?side2 A70.out).mono ?_); (case side1 => repeat (first | exact (Kd.R_reads' HO_12.out).2.2 | (with_reducible refine Kd.C_alloc ?_ _) | (with_reducible refine Kd.C_drewN ?_ _) | (with_reducible refine Kd.C_drew ?_))); (case side2 => exact (Kd.R_reads' HO_12.out).2.1); rintro e w76 ⟨rfl, hb⟩; refine ⟨_, rfl, ?_⟩; have n0_ := MS.am (Kd.R_below (by (with_reducible repeat first | apply Kd.R_alloc | apply Kd.R_drewN | apply Kd.R_drew); exact HO_9.out) hb); have n1_ := MS.am (Kd.R_below (by (with_reducible repeat first | apply Kd.R_alloc | apply Kd.R_drewN | apply Kd.R_drew); exact HO_12.out) hb); have n2_ := MS.am (Kd.R_below (by (with_reducible repeat first | apply Kd.R_alloc | apply Kd.R_drewN | apply Kd.R_drew); exact HO_13.out) hb); have n3_ := MS.am (below_step (by repeat (first | (with_reducible first | exact HB.out | apply below_alloc | apply pw_below_drewN | apply below_drew1) | exact HB.out)) hb); clear HO_9; clear HO_12; clear HO_13; clear HB; have HO_9 := n0_; have HO_12 := n1_; have HO_13 := n2_; have HB := n3_; clear n0_ n1_ n2_ n3_; (try clear hb); (try clear hk); (try clear hi)) | ((with_reducible refine gate_callee (f := 18) rfl ?_); refine goesL_ (some 105) rfl rfl Try.func18 (by kernel_rfl) rfl #[.slice Ao7 x9_2.length co7, .int .i64 (Go.bits .and .i64 a3 255), .int .i64 5] rfl (by (try simp only [List.map_toArray, List.map_cons, List.map_nil]); first | done | rfl | (simp only [List.length_drop, List.length_take]; rfl)) ?_; (with_reducible refine (key_At.calls k2 _ _ x9_2 (Go.bits .and .i64 a3 255) 5 t499 _ ?side1 ?side2 A71.out).mono ?_); (case side1 => repeat (first | exact (Kd.R_reads' HO_9.out).2.2 | (with_reducible refine Kd.C_alloc ?_ _) | (with_reducible refine Kd.C_drewN ?_ _) | (with_reducible refine Kd.C_drew ?_))); (case side2 => exact (Kd.R_reads' HO_9.out).2.1); rintro e w77 ⟨rfl, hb⟩; refine ⟨_, rfl, ?_⟩; have n0_ := MS.am (Kd.R_below (by (with_reducible repeat first | apply Kd.R_alloc | apply Kd.R_drewN | apply Kd.R_drew); exact HO_9.out) hb); have n1_ := MS.am (Kd.R_below (by (with_reducible repeat first | apply Kd.R_alloc | apply Kd.R_drewN | apply Kd.R_drew); exact HO_12.out) hb); have n2_ := MS.am (Kd.R_below (by (with_reducible repeat first | apply Kd.R_alloc | apply Kd.R_drewN | apply Kd.R_drew); exact HO_13.out) hb); have n3_ := MS.am (below_step (by repeat (first | (with_reducible first | exact HB.out | apply below_alloc | apply pw_below_drewN | apply below_drew1) | exact HB.out)) hb); clear HO_9; clear HO_12; clear HO_13; clear HB; have HO_9 := n0_; have HO_12 := n1_; have HO_13 := n2_; have HB := n3_; clear n0_ n1_ n2_ n3_; (try clear hb); (try clear hk); (try clear hi)) | (go_at_call 20; (with_reducible refine (mutoscopelaw5_known.calls k2  t500 _ A74.out).mono ?_); rintro e w78 ⟨rfl, hb⟩; have n0_ := MS.am (Kd.R_below (by (with_reducible repeat first | apply Kd.R_alloc | apply Kd.R_drewN | apply Kd.R_drew); exact HO_9.out) hb); have n1_ := MS.am (Kd.R_below (by (with_reducible repeat first | apply Kd.R_alloc | apply Kd.R_drewN | apply Kd.R_drew); exact HO_12.out) hb); have n2_ := MS.am (Kd.R_below (by (with_reducible repeat first | apply Kd.R_alloc | apply Kd.R_drewN | apply Kd.R_drew); exact HO_13.out) hb); have n3_ := MS.am (below_step (by repeat (first | (with_reducible first | exact HB.out | apply below_alloc | apply pw_below_drewN | apply below_drew1) | exact HB.out)) hb); clear HO_9; clear HO_12; clear HO_13; clear HB; have HO_9 := n0_; have HO_12 := n1_; have HO_13 := n2_; have HB := n3_; clear n0_ n1_ n2_ n3_; (try clear hb); (try clear hk); (try clear hi)))
         go_ret
         exact ⟨by first | rfl | (simp [errW_none, errW_some] <;> rfl) | (simp [*, errW_none, errW_some] <;> rfl), by repeat (first | (with_reducible first | exact HB.out | apply below_alloc | apply pw_below_drewN | apply below_drew1) | exact HB.out)⟩
        ·rw [if_neg c73] at H
         have c73b0 : ((x9_2.length : Int) == 0) = false := beq_eq_false_iff_ne.mpr c73
         have c73b1 : ((x9_2.length : Int) != 0) = true := bne_iff_ne.mpr c73
         have c73b2 : ¬ (x9_2 = []) := fun h_ => c73 (by rw [h_]; rfl)
         replace H := Option.bind_eq_some_iff.mp H
         obtain ⟨t501, A790, H⟩ := H
         replace H : ((key_At.f k2 x9_2 (Go.bits .and .i64 a3 255) 0).bind fun t502 => (if t501 = (wrap64 (t502 + (Int.tmod a2 65536))) then ((mutoscopelaw5_known.f k2).bind fun t503 => (some t503)) else (none))) = some r := H
         have A79 := Aside0.mk A790
         clear A790
         replace H := Option.bind_eq_some_iff.mp H
         obtain ⟨t502, A800, H⟩ := H
         replace H : (if t501 = (wrap64 (t502 + (Int.tmod a2 65536))) then ((mutoscopelaw5_known.f k2).bind fun t503 => (some t503)) else (none)) = some r := H
         have A80 := Aside0.mk A800
         clear A800
         by_cases c81 : t501 = (wrap64 (t502 + (Int.tmod a2 65536)))
         ·rw [if_pos c81] at H
          have c81b0 : (t501 == (wrap64 (t502 + (Int.tmod a2 65536)))) = true := beq_iff_eq.mpr c81
          have c81b1 : (t501 != (wrap64 (t502 + (Int.tmod a2 65536)))) = false := bne_eq_false_iff_eq.mpr c81
          clear c81
          replace H := Option.bind_eq_some_iff.mp H
          obtain ⟨t503, A820, H⟩ := H
          replace H : (some t503) = some r := H
          have A82 := Aside0.mk A820
          clear A820
          obtain rfl := Option.some.inj H
          obtain ⟨Ao83, co83, eo83⟩ := Kd.R_slice HO_12.out
          subst eo83
          go_wp2_with (first | ((with_reducible refine gate_callee (f := 18) rfl ?_); refine goesL_ (some 102) rfl rfl Try.func18 (by kernel_rfl) rfl #[.slice Ao83 x12_1.length co83, .int .i64 (wrap64 ((Go.bits .and .i64 a3 255) + (Go.bits .and .i64 a1 1023))), .int .i64 5] rfl (by (try simp only [List.map_toArray, List.map_cons, List.map_nil]); first | done | rfl | (simp only [List.length_drop, List.length_take]; rfl)) ?_; (with_reducible refine (key_At.calls k2 _ _ x12_1 (wrap64 ((Go.bits .and .i64 a3 255) + (Go.bits .and .i64 a1 1023))) 5 t498 _ ?side1 ?side2 A70.out).mono ?_); (case side1 => repeat (first | exact (Kd.R_reads' HO_12.out).2.2 | (with_reducible refine Kd.C_alloc ?_ _) | (with_reducible refine Kd.C_drewN ?_ _) | (with_reducible refine Kd.C_drew ?_))); (case side2 => exact (Kd.R_reads' HO_12.out).2.1); rintro e w84 ⟨rfl, hb⟩; refine ⟨_, rfl, ?_⟩; have n0_ := MS.am (Kd.R_below (by (with_reducible repeat first | apply Kd.R_alloc | apply Kd.R_drewN | apply Kd.R_drew); exact HO_9.out) hb); have n1_ := MS.am (Kd.R_below (by (with_reducible repeat first | apply Kd.R_alloc | apply Kd.R_drewN | apply Kd.R_drew); exact HO_12.out) hb); have n2_ := MS.am (Kd.R_below (by (with_reducible repeat first | apply Kd.R_alloc | apply Kd.R_drewN | apply Kd.R_drew); exact HO_13.out) hb); have n3_ := MS.am (below_step (by repeat (first | (with_reducible first | exact HB.out | apply below_alloc | apply pw_below_drewN | apply below_drew1) | exact HB.out)) hb); clear HO_9; clear HO_12; clear HO_13; clear HB; have HO_9 := n0_; have HO_12 := n1_; have HO_13 := n2_; have HB := n3_; clear n0_ n1_ n2_ n3_; (try clear hb); (try clear hk); (try clear hi)) | ((with_reducible refine gate_callee (f := 18) rfl ?_); refine goesL_ (some 105) rfl rfl Try.func18 (by kernel_rfl) rfl #[.slice Ao7 x9_2.length co7, .int .i64 (Go.bits .and .i64 a3 255), .int .i64 5] rfl (by (try simp only [List.map_toArray, List.map_cons, List.map_nil]); first | done | rfl | (simp only [List.length_drop, List.length_take]; rfl)) ?_; (with_reducible refine (key_At.calls k2 _ _ x9_2 (Go.bits .and .i64 a3 255) 5 t499 _ ?side1 ?side2 A71.out).mono ?_); (case side1 => repeat (first | exact (Kd.R_reads' HO_9.out).2.2 | (with_reducible refine Kd.C_alloc ?_ _) | (with_reducible refine Kd.C_drewN ?_ _) | (with_reducible refine Kd.C_drew ?_))); (case side2 => exact (Kd.R_reads' HO_9.out).2.1); rintro e w85 ⟨rfl, hb⟩; refine ⟨_, rfl, ?_⟩; have n0_ := MS.am (Kd.R_below (by (with_reducible repeat first | apply Kd.R_alloc | apply Kd.R_drewN | apply Kd.R_drew); exact HO_9.out) hb); have n1_ := MS.am (Kd.R_below (by (with_reducible repeat first | apply Kd.R_alloc | apply Kd.R_drewN | apply Kd.R_drew); exact HO_12.out) hb); have n2_ := MS.am (Kd.R_below (by (with_reducible repeat first | apply Kd.R_alloc | apply Kd.R_drewN | apply Kd.R_drew); exact HO_13.out) hb); have n3_ := MS.am (below_step (by repeat (first | (with_reducible first | exact HB.out | apply below_alloc | apply pw_below_drewN | apply below_drew1) | exact HB.out)) hb); clear HO_9; clear HO_12; clear HO_13; clear HB; have HO_9 := n0_; have HO_12 := n1_; have HO_13 := n2_; have HB := n3_; clear n0_ n1_ n2_ n3_; (try clear hb); (try clear hk); (try clear hi); obtain ⟨Ao86, co86, eo86⟩ := Kd.R_slice HO_13.out; subst eo86) | (go_at_call 18; (with_reducible refine (key_At.calls k2 _ _ x13_1 (Go.bits .and .i64 a3 255) 0 t501 _ ?side1 ?side2 A79.out).mono ?_); (case side1 => repeat (first | exact (Kd.R_reads' HO_13.out).2.2 | (with_reducible refine Kd.C_alloc ?_ _) | (with_reducible refine Kd.C_drewN ?_ _) | (with_reducible refine Kd.C_drew ?_))); (case side2 => exact (Kd.R_reads' HO_13.out).2.1); rintro e w87 ⟨rfl, hb⟩; have n0_ := MS.am (Kd.R_below (by (with_reducible repeat first | apply Kd.R_alloc | apply Kd.R_drewN | apply Kd.R_drew); exact HO_9.out) hb); have n1_ := MS.am (Kd.R_below (by (with_reducible repeat first | apply Kd.R_alloc | apply Kd.R_drewN | apply Kd.R_drew); exact HO_12.out) hb); have n2_ := MS.am (Kd.R_below (by (with_reducible repeat first | apply Kd.R_alloc | apply Kd.R_drewN | apply Kd.R_drew); exact HO_13.out) hb); have n3_ := MS.am (below_step (by repeat (first | (with_reducible first | exact HB.out | apply below_alloc | apply pw_below_drewN | apply below_drew1) | exact HB.out)) hb); clear HO_9; clear HO_12; clear HO_13; clear HB; have HO_9 := n0_; have HO_12 := n1_; have HO_13 := n2_; have HB := n3_; clear n0_ n1_ n2_ n3_; (try clear hb); (try clear hk); (try clear hi)) | (go_at_call 18; (with_reducible refine (key_At.calls k2 _ _ x9_2 (Go.bits .and .i64 a3 255) 0 t502 _ ?side1 ?side2 A80.out).mono ?_); (case side1 => repeat (first | exact (Kd.R_reads' HO_9.out).2.2 | (with_reducible refine Kd.C_alloc ?_ _) | (with_reducible refine Kd.C_drewN ?_ _) | (with_reducible refine Kd.C_drew ?_))); (case side2 => exact (Kd.R_reads' HO_9.out).2.1); rintro e w88 ⟨rfl, hb⟩; have n0_ := MS.am (Kd.R_below (by (with_reducible repeat first | apply Kd.R_alloc | apply Kd.R_drewN | apply Kd.R_drew); exact HO_9.out) hb); have n1_ := MS.am (Kd.R_below (by (with_reducible repeat first | apply Kd.R_alloc | apply Kd.R_drewN | apply Kd.R_drew); exact HO_12.out) hb); have n2_ := MS.am (Kd.R_below (by (with_reducible repeat first | apply Kd.R_alloc | apply Kd.R_drewN | apply Kd.R_drew); exact HO_13.out) hb); have n3_ := MS.am (below_step (by repeat (first | (with_reducible first | exact HB.out | apply below_alloc | apply pw_below_drewN | apply below_drew1) | exact HB.out)) hb); clear HO_9; clear HO_12; clear HO_13; clear HB; have HO_9 := n0_; have HO_12 := n1_; have HO_13 := n2_; have HB := n3_; clear n0_ n1_ n2_ n3_; (try clear hb); (try clear hk); (try clear hi)) | (go_at_call 20; (with_reducible refine (mutoscopelaw5_known.calls k2  t503 _ A82.out).mono ?_); rintro e w89 ⟨rfl, hb⟩; have n0_ := MS.am (Kd.R_below (by (with_reducible repeat first | apply Kd.R_alloc | apply Kd.R_drewN | apply Kd.R_drew); exact HO_9.out) hb); have n1_ := MS.am (Kd.R_below (by (with_reducible repeat first | apply Kd.R_alloc | apply Kd.R_drewN | apply Kd.R_drew); exact HO_12.out) hb); have n2_ := MS.am (Kd.R_below (by (with_reducible repeat first | apply Kd.R_alloc | apply Kd.R_drewN | apply Kd.R_drew); exact HO_13.out) hb); have n3_ := MS.am (below_step (by repeat (first | (with_reducible first | exact HB.out | apply below_alloc | apply pw_below_drewN | apply below_drew1) | exact HB.out)) hb); clear HO_9; clear HO_12; clear HO_13; clear HB; have HO_9 := n0_; have HO_12 := n1_; have HO_13 := n2_; have HB := n3_; clear n0_ n1_ n2_ n3_; (try clear hb); (try clear hk); (try clear hi)))
          go_ret
          exact ⟨by first | rfl | (simp [errW_none, errW_some] <;> rfl) | (simp [*, errW_none, errW_some] <;> rfl), by repeat (first | (with_reducible first | exact HB.out | apply below_alloc | apply pw_below_drewN | apply below_drew1) | exact HB.out)⟩
         ·rw [if_neg c81] at H
          exact absurd H (by simp)
       ·rw [if_neg c72] at H
        exact absurd H (by simp)
def mutoscopelaw5_KeyShifts.Pure : Prop := ∀ (l0 : List (S34)) (a1 : Int) (a2 : Int) (a3 : Int), (l0.length ≤ maxLen ∧ ∀ y_, y_ ∈ l0 → ((Lit.int .i64 y_.f0).wf = true) ∧ ((Lit.int .i64 y_.f1).wf = true) ∧ ((Lit.int .i64 y_.f2).wf = true) ∧ (((Lit.int .i64 y_.f3.f0).wf = true) ∧ ((Lit.int .i64 y_.f3.f1).wf = true) ∧ ((Lit.int .i64 y_.f3.f2).wf = true) ∧ ((Lit.int .i64 y_.f3.f3).wf = true))) → ((Lit.int .i64 a1).wf = true) → ((Lit.int .i64 a2).wf = true) → ((Lit.int .i64 a3).wf = true) → ∃ k, mutoscopelaw5_KeyShifts.f k l0 a1 a2 a3 = some true
end Go.Proofs.Ytejnbjclcdmopaa.PA
end

section
set_option linter.unusedVariables false
namespace Go.Proofs.Ytejnbjclcdmopaa.MB
open Go.RowKit
theorem w64 {x : Int} (h : -9223372036854775808 ≤ x) (h' : x ≤ 9223372036854775807) : wrap64 x = x := by unfold wrap64; omega
theorem u64w (x : Int) : IntKind.u64.wrap x = x % 18446744073709551616 := by simp [IntKind.wrap, IntKind.bits, IntKind.signed]
theorem and_low (k : IntKind) (j : Nat) (hj : j < k.bits) (hk : ∀ n : Int, 0 ≤ n → n < 2 ^ j → k.wrap n = n) (a : Int) :
    bits .and k a (2 ^ j - 1) = a % 2 ^ j := by
  have hpos : 0 < 2 ^ j := Nat.two_pow_pos j
  have hc : ((2 : Int) ^ j - 1) = ((2 ^ j - 1 : Nat) : Int) := by
    rw [Int.natCast_sub hpos]; simp
  have hp : 2 ^ j ≤ 2 ^ k.bits := Nat.pow_le_pow_right (by decide) (Nat.le_of_lt hj)
  have hm : (2 ^ j - 1) % 2 ^ k.bits = 2 ^ j - 1 := Nat.mod_eq_of_lt (by omega)
  rw [hc]
  simp only [bits, BitVec.ofInt_natCast, BitVec.toNat_and, BitVec.toNat_ofNat, hm, BitVec.toNat_ofInt]
  rw [Nat.and_two_pow_sub_one_eq_mod]
  have hn : 0 ≤ a % (2 ^ k.bits : Int) := Int.emod_nonneg _ (by have := Int.pow_pos (n := 2) (m := k.bits) (by decide); omega)
  have hd : ((2 : Int) ^ j) ∣ 2 ^ k.bits := ⟨2 ^ (k.bits - j), by rw [← Int.pow_add]; congr 1; omega⟩
  have he : ((((a % ((2 ^ k.bits : Nat) : Int)).toNat % 2 ^ j : Nat)) : Int) = a % 2 ^ j := by
    rw [Int.natCast_emod, Int.toNat_of_nonneg (by rw [Int.natCast_pow]; exact hn)]
    rw [Int.natCast_pow, Int.natCast_pow]
    exact Int.emod_emod_of_dvd a hd
  have hlo := Int.emod_nonneg a (b := (2 : Int) ^ j) (by have := Int.pow_pos (n := 2) (m := j) (by decide); omega)
  have hhi := Int.emod_lt_of_pos a (b := (2 : Int) ^ j) (Int.pow_pos (by decide))
  rw [hk _ (Int.natCast_nonneg _) (by rw [he]; exact hhi), he]
theorem and32u (a : Int) : bits .and .u64 a 4294967295 = a % 4294967296 := and_low .u64 32 (by decide) (fun n h h' => by rw [u64w]; omega) a
theorem mul64_parts (x y x1 x0 y1 y0 : Int) (hx : x = x1 * 4294967296 + x0) (hy : y = y1 * 4294967296 + y0) (h1 : 0 ≤ x1 ∧ x1 < 4294967296) (h2 : 0 ≤ x0 ∧ x0 < 4294967296) (h3 : 0 ≤ y1 ∧ y1 < 4294967296) (h4 : 0 ≤ y0 ∧ y0 < 4294967296) :
    IntKind.u64.wrap ((IntKind.u64.wrap ((IntKind.u64.wrap (x1 * y1)) + ((IntKind.u64.wrap ((IntKind.u64.wrap (x1 * y0)) + ((IntKind.u64.wrap (x0 * y0)) / 4294967296))) / 4294967296))) + ((IntKind.u64.wrap (((IntKind.u64.wrap ((IntKind.u64.wrap (x1 * y0)) + ((IntKind.u64.wrap (x0 * y0)) / 4294967296))) % 4294967296) + (IntKind.u64.wrap (x0 * y1)))) / 4294967296)) = x * y / 18446744073709551616 := by
  have bd : ∀ p q : Int, 0 ≤ p ∧ p < 4294967296 → 0 ≤ q ∧ q < 4294967296 → 0 ≤ p * q ∧ p * q ≤ 18446744065119617025 := fun p q ⟨a, b⟩ ⟨c, d⟩ =>
    ⟨Int.mul_nonneg a c, Int.le_trans (Int.mul_le_mul_of_nonneg_left (show q ≤ 4294967295 by omega) a) (by omega)⟩
  obtain ⟨a1, b1⟩ := bd x1 y1 h1 h3
  obtain ⟨a2, b2⟩ := bd x1 y0 h1 h4
  obtain ⟨a3, b3⟩ := bd x0 y1 h2 h3
  obtain ⟨a4, b4⟩ := bd x0 y0 h2 h4
  have e : x * y = x1 * y1 * 18446744073709551616 + (x1 * y0 + x0 * y1) * 4294967296 + x0 * y0 := by
    subst hx hy
    grind
  generalize x1 * y1 = p11 at *
  generalize x1 * y0 = p10 at *
  generalize x0 * y1 = p01 at *
  generalize x0 * y0 = p00 at *
  simp only [u64w]
  rw [e]
  omega
def cl (a lo hi : Int) : Int := if a < lo then lo else if a > hi then hi else a
def hd (a : Int) : Int := cl a (-1099511627776) 1099511627776
def mul (a b : Int) : Int := hd (hd a * hd b / 65536)
def add (a b : Int) : Int := hd (hd a + hd b)
theorem hd_bd (a : Int) : -1099511627776 ≤ hd a ∧ hd a ≤ 1099511627776 := by unfold hd cl; split <;> (try split) <;> omega
theorem hd_of {a : Int} (h : -1099511627776 ≤ a) (h' : a ≤ 1099511627776) : hd a = a := by unfold hd cl; rw [if_neg (by omega), if_neg (by omega)]
theorem hd_hi {a : Int} (h : 1099511627776 ≤ a) : hd a = 1099511627776 := by unfold hd cl; rw [if_neg (by omega)]; split <;> omega
theorem hd_lo {a : Int} (h : a ≤ -1099511627776) : hd a = -1099511627776 := by unfold hd cl; split <;> (try split) <;> omega
theorem cl_bd (a lo hi : Int) (h : lo ≤ hi) : lo ≤ cl a lo hi ∧ cl a lo hi ≤ hi := by unfold cl; split <;> (try split) <;> omega
theorem mul_bd (a b : Int) : -1099511627776 ≤ mul a b ∧ mul a b ≤ 1099511627776 := hd_bd _
theorem prod_bd (a b : Int) (ha : -1099511627776 ≤ a ∧ a ≤ 1099511627776) (hb : -1099511627776 ≤ b ∧ b ≤ 1099511627776) : -1208925819614629174706176 ≤ a * b ∧ a * b ≤ 1208925819614629174706176 := by
  obtain ⟨a1, a2⟩ := ha
  obtain ⟨b1, b2⟩ := hb
  have h1 : 0 ≤ (1099511627776 - a) * (1099511627776 + b) := Int.mul_nonneg (by omega) (by omega)
  have h2 : 0 ≤ (1099511627776 + a) * (1099511627776 - b) := Int.mul_nonneg (by omega) (by omega)
  have h3 : 0 ≤ (1099511627776 - a) * (1099511627776 - b) := Int.mul_nonneg (by omega) (by omega)
  have h4 : 0 ≤ (1099511627776 + a) * (1099511627776 + b) := Int.mul_nonneg (by omega) (by omega)
  simp only [Int.add_mul, Int.sub_mul, Int.mul_add, Int.mul_sub] at h1 h2 h3 h4
  omega
def Evt (p : Nat → Prop) : Prop := ∃ n, ∀ k, n ≤ k → p k
theorem Evt.of {p : Nat → Prop} (n : Nat) (h : ∀ k, n ≤ k → p k) : Evt p := ⟨n, h⟩
theorem Evt.all {p : Nat → Prop} (h : ∀ k, p k) : Evt p := ⟨0, fun k _ => h k⟩
theorem Evt.mono {p q : Nat → Prop} (h : Evt p) (hq : ∀ k, p k → q k) : Evt q := h.elim fun n hn => ⟨n, fun k hk => hq k (hn k hk)⟩
theorem Evt.and {p q : Nat → Prop} (h : Evt p) (hq : Evt q) : Evt fun k => p k ∧ q k := by
  obtain ⟨n, hn⟩ := h
  obtain ⟨m, hm⟩ := hq
  exact ⟨max n m, fun k hk => ⟨hn k (by omega), hm k (by omega)⟩⟩
theorem Evt.succ {p q : Nat → Prop} (h : Evt p) (hq : ∀ k, p k → q (k + 1)) : Evt q := by
  obtain ⟨n, hn⟩ := h
  refine ⟨n + 1, fun k hk => ?_⟩
  obtain ⟨m, rfl⟩ : ∃ m, k = m + 1 := ⟨k - 1, by omega⟩
  exact hq m (hn m (by omega))
end Go.Proofs.Ytejnbjclcdmopaa.MB
end

section
set_option linter.unusedVariables false
namespace Go.Proofs.Ytejnbjclcdmopaa.PA
open Go.RowKit Go.Proofs.YtejnbjclcdmopaaW.PrintWords Go.Proofs.YtejnbjclcdmopaaW.PrintLast Go.Proofs.YtejnbjclcdmopaaW.PrintMore Go.Proofs.Ytejnbjclcdmopaa.MB
theorem q_Clamp_eq (a lo hi : Int) : q_Clamp.f a lo hi = some (cl a lo hi) := by
  unfold q_Clamp.f cl; split
  · rfl
  · split <;> rfl
theorem q_Hold_eq (a : Int) : q_Hold.f a = some (hd a) := by unfold q_Hold.f; rw [q_Clamp_eq]; rfl
theorem q_Add_eq (a b : Int) : q_Add.f a b = some (add a b) := by
  unfold q_Add.f
  simp only [q_Hold_eq, Option.bind_some]
  have h1 := hd_bd a
  have h2 := hd_bd b
  rw [w64 (by omega) (by omega)]; rfl
theorem bits_Mul64_eq (x y : Int) (hx : 0 ≤ x ∧ x < 18446744073709551616) (hy : 0 ≤ y ∧ y < 18446744073709551616) :
    bits_Mul64.f x y = some (x * y / 18446744073709551616, x * y % 18446744073709551616) := by
  unfold bits_Mul64.f
  simp only [and32u]
  rw [mul64_parts x y (x / 4294967296) (x % 4294967296) (y / 4294967296) (y % 4294967296) (by omega) (by omega) (by omega) (by omega) (by omega) (by omega), u64w (x * y)]
theorem q_product_eq (a b : Int) (ha : -9223372036854775808 ≤ a ∧ a ≤ 9223372036854775807) (hb : -9223372036854775808 ≤ b ∧ b ≤ 9223372036854775807) :
    q_product.f a b = some ((a * b / 18446744073709551616) % 18446744073709551616, a * b % 18446744073709551616) := by
  unfold q_product.f
  simp only [u64w]
  rw [bits_Mul64_eq _ _ (by omega) (by omega)]
  simp only [Option.bind_some]
  by_cases h1 : a < 0
  · have ea : a % 18446744073709551616 = a + 18446744073709551616 := by omega
    by_cases h2 : b < 0
    · have eb : b % 18446744073709551616 = b + 18446744073709551616 := by omega
      rw [if_pos h1, if_pos h2, ea, eb]
      have e : (a + 18446744073709551616) * (b + 18446744073709551616) = a * b + a * 18446744073709551616 + b * 18446744073709551616 + 340282366920938463463374607431768211456 := by grind
      rw [e]; generalize a * b = p; congr 2 <;> omega
    · have eb : b % 18446744073709551616 = b := by omega
      rw [if_pos h1, if_neg h2, ea, eb]
      have e : (a + 18446744073709551616) * b = a * b + b * 18446744073709551616 := by grind
      rw [e]; generalize a * b = p; congr 2 <;> omega
  · have ea : a % 18446744073709551616 = a := by omega
    by_cases h2 : b < 0
    · have eb : b % 18446744073709551616 = b + 18446744073709551616 := by omega
      rw [if_neg h1, if_pos h2, ea, eb]
      have e : a * (b + 18446744073709551616) = a * b + a * 18446744073709551616 := by grind
      rw [e]; generalize a * b = p; congr 2 <;> omega
    · have eb : b % 18446744073709551616 = b := by omega
      rw [if_neg h1, if_neg h2, ea, eb]
      have hp : 0 ≤ a * b := Int.mul_nonneg (by omega) (by omega)
      have hp2 : a * b ≤ 9223372036854775807 * 9223372036854775807 := Int.mul_le_mul ha.2 hb.2 (by omega) (by omega)
      generalize a * b = p at *; congr 2; omega
theorem or48 (x y : Int) (hx : 0 ≤ x) (hy : 0 ≤ y ∧ y < 281474976710656) : Go.bits .or .u64 (IntKind.u64.wrap (x * 281474976710656)) y = (x * 281474976710656) % 18446744073709551616 + y := by
  rw [u64w]
  exact bits_join .u64 64 (by decide) (fun n h h' => by rw [u64w]; omega) 48 _ y (by omega) (by omega) (by omega) hy.1 (by omega) (by omega)
theorem q_down_eq (k : Nat) (p : Int) (hp : -1208925819614629174706176 ≤ p ∧ p ≤ 1208925819614629174706176) :
    ∃ r, q_down.f (k + 1) ((p / 18446744073709551616) % 18446744073709551616) (p % 18446744073709551616) = some r ∧ hd r = hd (p / 65536) := by
  unfold q_down.f
  rw [or48 _ _ (by omega) (by omega)]
  generalize hw : wrap64 (p / 18446744073709551616 % 18446744073709551616) = t
  have ht : t = p / 18446744073709551616 := by rw [← hw]; unfold wrap64; omega
  generalize hv : (p / 18446744073709551616 % 18446744073709551616 * 281474976710656) % 18446744073709551616 + p % 18446744073709551616 / 65536 = v
  have hv' : v = (p / 65536) % 18446744073709551616 := by rw [← hv]; omega
  clear hv hw
  have h1 : ¬ t / 65536 < -1 := by omega
  rw [if_neg h1]
  by_cases h2 : t / 65536 = -1
  · rw [if_pos h2]
    by_cases h3 : v / 9223372036854775808 = 0
    · have e : ((v / 9223372036854775808) == 0) = true := by simpa using h3
      rw [e]; simp only [q_down.j0, if_true]
      exact ⟨_, rfl, by rw [hd_lo (by omega), hd_lo (by omega)]⟩
    · have e : ((v / 9223372036854775808) == 0) = false := by simpa using h3
      rw [e]; simp only [q_down.j0]
      rw [if_neg (by decide), if_neg (by omega), if_neg (by omega)]
      exact ⟨_, rfl, by congr 1; unfold wrap64; omega⟩
  · rw [if_neg h2]; simp only [q_down.j0]
    rw [if_neg (by decide)]
    by_cases h4 : t / 65536 > 0
    · rw [if_pos h4]; exact ⟨_, rfl, by rw [hd_hi (by omega), hd_hi (by omega)]⟩
    · rw [if_neg h4, if_pos (by omega)]
      by_cases h3 : v / 9223372036854775808 = 0
      · rw [if_pos h3]; exact ⟨_, rfl, by congr 1; unfold wrap64; omega⟩
      · rw [if_neg h3]; exact ⟨_, rfl, by rw [hd_hi (by omega), hd_hi (by omega)]⟩
theorem q_Mul_eq (k : Nat) (a b : Int) : q_Mul.f (k + 1) a b = some (mul a b) := by
  unfold q_Mul.f
  simp only [q_Hold_eq, Option.bind_some]
  have h1 := hd_bd a
  have h2 := hd_bd b
  rw [q_product_eq _ _ (by omega) (by omega)]
  simp only [Option.bind_some]
  obtain ⟨r, e, h⟩ := q_down_eq k _ (prod_bd _ _ h1 h2)
  rw [e]; simp only [Option.bind_some]
  rw [h]; rfl
theorem q_Mul_ge {k : Nat} (hk : 1 ≤ k) (a b : Int) : q_Mul.f k a b = some (mul a b) := by
  obtain ⟨m, rfl⟩ : ∃ m, k = m + 1 := ⟨k - 1, by omega⟩
  exact q_Mul_eq m a b
end Go.Proofs.Ytejnbjclcdmopaa.PA
end

section
namespace Go.Proofs.Ytejnbjclcdmopaa.PA
open Go.RowKit Go.Proofs.YtejnbjclcdmopaaW.PrintWords Go.Proofs.YtejnbjclcdmopaaW.PrintLast Go.Proofs.YtejnbjclcdmopaaW.PrintMore
attribute [local go_sem] max2_int min2_int max_two min_two max_three min_three max_four min_four
attribute [local go_sem] Go.Proofs.Ytejnbjclcdmopaa.MS.isSome_setCell
set_option linter.unusedVariables false
set_option linter.unusedSimpArgs false
end Go.Proofs.Ytejnbjclcdmopaa.PA
end

section
namespace Go.Proofs.Ytejnbjclcdmopaa.PA
open Go.RowKit Go.Proofs.YtejnbjclcdmopaaW.PrintWords Go.Proofs.YtejnbjclcdmopaaW.PrintLast Go.Proofs.YtejnbjclcdmopaaW.PrintMore
attribute [local go_sem] max2_int min2_int max_two min_two max_three min_three max_four min_four
attribute [local go_sem] Go.Proofs.Ytejnbjclcdmopaa.MS.isSome_setCell
set_option linter.unusedVariables false
set_option linter.unusedSimpArgs false
end Go.Proofs.Ytejnbjclcdmopaa.PA
end

section
namespace Go.Proofs.Ytejnbjclcdmopaa.PA
open Go.RowKit Go.Proofs.YtejnbjclcdmopaaW.PrintWords Go.Proofs.YtejnbjclcdmopaaW.PrintLast Go.Proofs.YtejnbjclcdmopaaW.PrintMore
attribute [local go_sem] max2_int min2_int max_two min_two max_three min_three max_four min_four
attribute [local go_sem] Go.Proofs.Ytejnbjclcdmopaa.MS.isSome_setCell
set_option linter.unusedVariables false
set_option linter.unusedSimpArgs false
end Go.Proofs.Ytejnbjclcdmopaa.PA
end

section
namespace Go.Proofs.Ytejnbjclcdmopaa.PA
open Go.RowKit Go.Proofs.YtejnbjclcdmopaaW.PrintWords Go.Proofs.YtejnbjclcdmopaaW.PrintLast Go.Proofs.YtejnbjclcdmopaaW.PrintMore
attribute [local go_sem] max2_int min2_int max_two min_two max_three min_three max_four min_four
attribute [local go_sem] Go.Proofs.Ytejnbjclcdmopaa.MS.isSome_setCell
set_option linter.unusedVariables false
set_option linter.unusedSimpArgs false
end Go.Proofs.Ytejnbjclcdmopaa.PA
end

section
namespace Go.Proofs.Ytejnbjclcdmopaa.PA
open Go.RowKit Go.Proofs.YtejnbjclcdmopaaW.PrintWords Go.Proofs.YtejnbjclcdmopaaW.PrintLast Go.Proofs.YtejnbjclcdmopaaW.PrintMore
attribute [local go_sem] max2_int min2_int max_two min_two max_three min_three max_four min_four
attribute [local go_sem] Go.Proofs.Ytejnbjclcdmopaa.MS.isSome_setCell
set_option linter.unusedVariables false
set_option linter.unusedSimpArgs false
end Go.Proofs.Ytejnbjclcdmopaa.PA
end
