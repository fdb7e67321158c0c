/- Lines of 3 texts of this seat, merged by wip/shake.py (a program of this session): what the statement's proof does not use is left out. -/
import Derived.Test.YtejnbjclcdmopaaZKeyNumbers3

section
namespace Go.Proofs.Ytejnbjclcdmopaa.PA
open Go.RowKit Go.Proofs.YtejnbjclcdmopaaW.PrintWords Go.Proofs.YtejnbjclcdmopaaW.PrintLast Go.Proofs.YtejnbjclcdmopaaW.PrintMore
attribute [local go_sem] max2_int min2_int max_two min_two max_three min_three max_four min_four
attribute [local go_sem] Go.Proofs.Ytejnbjclcdmopaa.MS.isSome_setCell
set_option linter.unusedVariables false
set_option linter.unusedSimpArgs false
mutual
def mutoscoperef5_Right.l0 : Nat → List (S34) → Int → Option (Bool)
 | 0, _, _ => none
 | k + 1, x0, x3 => if x3 < (x0.length : Int) then (if 0 ≤ x3 then ((mutoscoperef5_Moves.f ((rd_T34 x0 x3).f0) ((rd_T34 x0 x3).f2) ((rd_T34 x0 x3).f3.f0) ((rd_T34 x0 x3).f3.f1) ((rd_T34 x0 x3).f3.f2) ((rd_T34 x0 x3).f3.f3)).bind fun t419 => (if t419 = true then ((mutoscoperef5_within.f ((rd_T34 x0 x3).f1) (-67108864) 67108864).bind fun t421 => (if t421 = true then (if x3 > 0 then (if 0 ≤ (wrap64 (x3 - 1)) then (if (wrap64 (x3 - 1)) < (x0.length : Int) then (mutoscoperef5_Right.j1 k x0 x3 (decide (((rd_T34 x0 (wrap64 (x3 - 1))).f0) ≥ ((rd_T34 x0 x3).f0)))) else (none)) else (none)) else (mutoscoperef5_Right.j1 k x0 x3 false)) else (mutoscoperef5_Right.j1 k x0 x3 true))) else (mutoscoperef5_Right.j1 k x0 x3 true))) else (none)) else (some (decide ((x0.length : Int) ≤ 32)))
def mutoscoperef5_Right.j1 : Nat → List (S34) → Int → Bool → Option (Bool)
 | 0, _, _, _ => none
 | k + 1, x0, x3, x53 => if x53 = true then (some false) else (mutoscoperef5_Right.l0 k x0 (wrap64 (x3 + 1)))
end
def mutoscoperef5_Right.f (k : Nat) (l0 : List (S34)) : Option (Bool) := mutoscoperef5_Right.l0 k l0 0
def mutoscoperef5_Right.T4 : Bool × List (List Nat × List Nat) := (true, [([], []), ([], []), ([0, 1], [0, 1]), ([2], [2]), ([3], [3]), ([], []), ([], []), ([5, 6], [5, 6]), ([7], [7]), ([8], [8]), ([], []), ([], []), ([10, 11], [10, 11]), ([12], [12]), ([13], [13]), ([4, 9, 14], [4, 9, 14]), ([15], [15]), ([16, 15], [16]), ([17], [17]), ([17], [17]), ([18, 19, 17], [17, 18, 19]), ([20, 17], [17, 20]), ([21, 17], [17, 21]), ([22, 17, 17], [17, 22]), ([23, 17], [17, 23]), ([17, 24], [17, 24]), ([25, 23], [25]), ([26], [26]), ([27, 26], [26, 27]), ([28, 26, 26], [26, 28]), ([29], [29]), ([29], [29]), ([31, 29], [29, 31]), ([30, 32, 29], [29, 30, 32]), ([33, 29], [29, 33]), ([34, 29], [29, 34]), ([29], [29]), ([29], [29]), ([36, 37, 29], [29, 36, 37]), ([38, 29], [29, 38]), ([39, 29], [29, 39]), ([35, 40, 29], [29, 35, 40]), ([29, 41, 26], [26, 29, 41]), ([26, 42], [26, 42])])
def mutoscoperef5_Right.B4 : List Nat := [0, 0, 3, 7, 15, 0, 0, 96, 224, 480, 0, 0, 3072, 7168, 15360, 32767, 65535, 131071, 262143, 262143, 1048575, 2097151, 4194303, 8388607, 16777215, 33554431, 67108863, 134217727, 268435455, 536870911, 1073741823, 1073741823, 3221225471, 8589934591, 17179869183, 34359738367, 1073741823, 1073741823, 207232172031, 482110078975, 1031865892863, 2199023255551, 4398046511103, 8796093022207]
theorem mutoscoperef5_Right.tab4 : rtab .any (opsOf Try.f41 4) = mutoscoperef5_Right.T4 := by kernel_rfl
theorem mutoscoperef5_Right.bits4 : waitsOk mutoscoperef5_Right.T4.2 mutoscoperef5_Right.B4 = true := by kernel_rfl
set_option maxHeartbeats 8000000 in
set_option maxRecDepth 100000 in
theorem mutoscoperef5_Right.calls (k : Nat) (A0 : Option Addr) (c0 : Nat) (l0 : List (S34)) (r : Bool) (w : World) (hr0 : Kd.C k34 w A0 l0.length l0) (hc0 : l0.length ≤ c0) (h : mutoscoperef5_Right.f k l0 = some r) :
  Calls Try.prog 41 #[.slice A0 l0.length c0] w fun e w' => e = .returned (.bool r) ∧ Below w.heap.size w w' := by
 have hu23 := Try.underlying23
 have HR0 := Aside0.mk hr0
 have HC0 := Aside0.mk hc0
 clear hr0 hc0
 have HB := Aside0.mk (Below.refl w.heap.size w)
 have H : (mutoscoperef5_Right.l0 k l0 0) = some r := h
 clear h
 have H' := Aside0.mk H
 clear H
 go_enter Try.func41, Try.ntmps41
 go_wp2
 go_loopg [3] k (fun kq v3 w' => ∃ (x3_1 : Int), v3 = .int .i64 x3_1 ∧ Aside0 (mutoscoperef5_Right.l0 kq l0 x3_1 = some r) ∧ Aside0 (kq ≤ k) ∧ Aside0 (Below w.heap.size w w'))
 case atStart => exact ⟨(0), (by first | rfl | (simp; done) | (simp [*]; done)), H', ⟨Nat.le_refl _⟩, ⟨by repeat (first | (with_reducible first | exact HB.out | apply below_alloc | apply pw_below_drewN | apply below_drew1) | exact HB.out)⟩⟩
 case round =>
  clear H'
  obtain ⟨x3_1, rfl, HA, HK1, HB⟩ := hrel
  cases gk with
  | zero => exact absurd HA.out (by simp [mutoscoperef5_Right.l0])
  | succ k1 =>
   have H := HA.out
   clear HA
   simp only [mutoscoperef5_Right.l0] at H
   by_cases c2 : x3_1 < (l0.length : Int)
   ·rw [if_pos c2] at H
    have c2b0 : decide (x3_1 < (l0.length : Int)) = true := decide_eq_true c2
    clear c2
    have HC3 := Aside0.mk H
    clear H
    go_upto_region 4 with (fail)
    go_cut [53] (fun v53 wc => ∃ (kq : Nat) (x53_2 : Bool), v53 = .bool x53_2 ∧ Aside0 (mutoscoperef5_Right.j1 kq l0 x3_1 x53_2 = some r) ∧ Aside0 (kq ≤ k1) ∧ Aside0 (Below w.heap.size w wc))
    case first =>
     have H := HC3.out
     clear HC3
     by_cases c4 : 0 ≤ x3_1
     ·rw [if_pos c4] at H
      have c4b0 : decide (0 ≤ x3_1) = true := decide_eq_true c4
      clear c4
      (first | rw [c4b0] | (simp only [i64_w, i32_w]; rw [c4b0]) | skip)
      replace H := Option.bind_eq_some_iff.mp H
      obtain ⟨t419, A50, H⟩ := H
      replace H : (if t419 = true then ((mutoscoperef5_within.f ((rd_T34 l0 x3_1).f1) (-67108864) 67108864).bind fun t421 => (if t421 = true then (if x3_1 > 0 then (if 0 ≤ (wrap64 (x3_1 - 1)) then (if (wrap64 (x3_1 - 1)) < (l0.length : Int) then (mutoscoperef5_Right.j1 k1 l0 x3_1 (decide (((rd_T34 l0 (wrap64 (x3_1 - 1))).f0) ≥ ((rd_T34 l0 x3_1).f0)))) else (none)) else (none)) else (mutoscoperef5_Right.j1 k1 l0 x3_1 false)) else (mutoscoperef5_Right.j1 k1 l0 x3_1 true))) else (mutoscoperef5_Right.j1 k1 l0 x3_1 true)) = some r := H
      have A5 := Aside0.mk A50
      clear A50
      by_cases c6 : t419 = true
      ·subst c6
       have H1 : ((mutoscoperef5_within.f ((rd_T34 l0 x3_1).f1) (-67108864) 67108864).bind fun t421 => (if t421 = true then (if x3_1 > 0 then (if 0 ≤ (wrap64 (x3_1 - 1)) then (if (wrap64 (x3_1 - 1)) < (l0.length : Int) then (mutoscoperef5_Right.j1 k1 l0 x3_1 (decide (((rd_T34 l0 (wrap64 (x3_1 - 1))).f0) ≥ ((rd_T34 l0 x3_1).f0)))) else (none)) else (none)) else (mutoscoperef5_Right.j1 k1 l0 x3_1 false)) else (mutoscoperef5_Right.j1 k1 l0 x3_1 true))) = some r := by rw [if_pos rfl] at H; exact H
       clear H
       have H := H1
       clear H1
       replace H := Option.bind_eq_some_iff.mp H
       obtain ⟨t421, A70, H⟩ := H
       replace H : (if t421 = true then (if x3_1 > 0 then (if 0 ≤ (wrap64 (x3_1 - 1)) then (if (wrap64 (x3_1 - 1)) < (l0.length : Int) then (mutoscoperef5_Right.j1 k1 l0 x3_1 (decide (((rd_T34 l0 (wrap64 (x3_1 - 1))).f0) ≥ ((rd_T34 l0 x3_1).f0)))) else (none)) else (none)) else (mutoscoperef5_Right.j1 k1 l0 x3_1 false)) else (mutoscoperef5_Right.j1 k1 l0 x3_1 true)) = some r := H
       have A7 := Aside0.mk A70
       clear A70
       by_cases c8 : t421 = true
       ·subst c8
        have H1 : (if x3_1 > 0 then (if 0 ≤ (wrap64 (x3_1 - 1)) then (if (wrap64 (x3_1 - 1)) < (l0.length : Int) then (mutoscoperef5_Right.j1 k1 l0 x3_1 (decide (((rd_T34 l0 (wrap64 (x3_1 - 1))).f0) ≥ ((rd_T34 l0 x3_1).f0)))) else (none)) else (none)) else (mutoscoperef5_Right.j1 k1 l0 x3_1 false)) = some r := by rw [if_pos rfl] at H; exact H
        clear H
        have H := H1
        clear H1
        by_cases c9 : x3_1 > 0
        ·rw [if_pos c9] at H
         have c9b0 : decide (0 < x3_1) = true := decide_eq_true c9
         clear c9
         obtain ⟨ji10, hji10⟩ : ∃ j_ : Int, (wrap64 (x3_1 - 1)) = j_ := ⟨_, rfl⟩
         replace H : (if 0 ≤ (ji10) then (if (ji10) < (l0.length : Int) then (mutoscoperef5_Right.j1 k1 l0 x3_1 (decide (((rd_T34 l0 (ji10)).f0) ≥ ((rd_T34 l0 x3_1).f0)))) else (none)) else (none)) = some r := by first | (rw [hji10] at H; exact H) | (simp only [hji10] at H ⊢; exact H)
         (try rw [hji10] at A5)
         (try rw [hji10] at A7)
         have hji10w : (IntKind.i64.wrap (x3_1 - 1)) = ji10 := (i64_w _).trans hji10
         by_cases c11 : 0 ≤ (ji10)
         ·rw [if_pos c11] at H
          have c11b0 : decide (0 ≤ (ji10)) = true := decide_eq_true c11
          clear c11
          by_cases c12 : (ji10) < (l0.length : Int)
          ·rw [if_pos c12] at H
           have c12b0 : decide ((ji10) < (l0.length : Int)) = true := decide_eq_true c12
           clear c12
           have H' := Aside0.mk H
           clear H
           try go_wp2
           have n0_ := Aside0.mk (below_drew1 HB.out)
           clear HB
           have HB := n0_
           clear n0_
           have p416 : 0 ≤ (x3_1 : Int) := of_decide_eq_true (by first | (with_reducible assumption) | assumption)
           have q416 : x3_1 < (l0.length : Int) := of_decide_eq_true (by first | (with_reducible assumption) | assumption)
           obtain ⟨ad416, e416, hx416_0, hx416_1, hx416_2, hx416_3, hx416_4, hx416_5, hx416_6⟩ := at_T34 HR0.out x3_1 p416 q416
           have hw416_6 := hx416_6
           have hw416_5 := hx416_5
           have hw416_4 := hx416_4
           have hw416_3 := hx416_3
           have hw416_2 := hx416_2
           have hw416_1 := hx416_1
           have hw416_0 := hx416_0
           cases e416
           replace hx416_0 := (HB.out.cell (World.block_lt_of_cell? w _ hx416_0)).trans hx416_0
           replace hx416_1 := (HB.out.cell (World.block_lt_of_cell? w _ hx416_1)).trans hx416_1
           replace hx416_2 := (HB.out.cell (World.block_lt_of_cell? w _ hx416_2)).trans hx416_2
           replace hx416_3 := (HB.out.cell (World.block_lt_of_cell? w _ hx416_3)).trans hx416_3
           replace hx416_4 := (HB.out.cell (World.block_lt_of_cell? w _ hx416_4)).trans hx416_4
           replace hx416_5 := (HB.out.cell (World.block_lt_of_cell? w _ hx416_5)).trans hx416_5
           replace hx416_6 := (HB.out.cell (World.block_lt_of_cell? w _ hx416_6)).trans hx416_6
           replace p416 := eq_true p416
           replace q416 := eq_true q416
           have p417 : 0 ≤ (x3_1 : Int) := of_decide_eq_true (by first | (with_reducible assumption) | assumption)
           have q417 : x3_1 < (l0.length : Int) := of_decide_eq_true (by first | (with_reducible assumption) | assumption)
           obtain ⟨ad417, e417, hx417_0, hx417_1, hx417_2, hx417_3, hx417_4, hx417_5, hx417_6⟩ := at_T34 HR0.out x3_1 p417 q417
           have hw417_6 := hx417_6
           have hw417_5 := hx417_5
           have hw417_4 := hx417_4
           have hw417_3 := hx417_3
           have hw417_2 := hx417_2
           have hw417_1 := hx417_1
           have hw417_0 := hx417_0
           obtain rfl : ad416 = ad417 := (by injection e417)
           replace hx417_0 := (HB.out.cell (World.block_lt_of_cell? w _ hx417_0)).trans hx417_0
           replace hx417_1 := (HB.out.cell (World.block_lt_of_cell? w _ hx417_1)).trans hx417_1
           replace hx417_2 := (HB.out.cell (World.block_lt_of_cell? w _ hx417_2)).trans hx417_2
           replace hx417_3 := (HB.out.cell (World.block_lt_of_cell? w _ hx417_3)).trans hx417_3
           replace hx417_4 := (HB.out.cell (World.block_lt_of_cell? w _ hx417_4)).trans hx417_4
           replace hx417_5 := (HB.out.cell (World.block_lt_of_cell? w _ hx417_5)).trans hx417_5
           replace hx417_6 := (HB.out.cell (World.block_lt_of_cell? w _ hx417_6)).trans hx417_6
           replace p417 := eq_true p417
           replace q417 := eq_true q417
           have p418 : 0 ≤ (x3_1 : Int) := of_decide_eq_true (by first | (with_reducible assumption) | assumption)
           have q418 : x3_1 < (l0.length : Int) := of_decide_eq_true (by first | (with_reducible assumption) | assumption)
           obtain ⟨ad418, e418, hx418_0, hx418_1, hx418_2, hx418_3, hx418_4, hx418_5, hx418_6⟩ := at_T34 HR0.out x3_1 p418 q418
           have hw418_6 := hx418_6
           have hw418_5 := hx418_5
           have hw418_4 := hx418_4
           have hw418_3 := hx418_3
           have hw418_2 := hx418_2
           have hw418_1 := hx418_1
           have hw418_0 := hx418_0
           obtain rfl : ad416 = ad418 := (by injection e418)
           replace hx418_0 := (HB.out.cell (World.block_lt_of_cell? w _ hx418_0)).trans hx418_0
           replace hx418_1 := (HB.out.cell (World.block_lt_of_cell? w _ hx418_1)).trans hx418_1
           replace hx418_2 := (HB.out.cell (World.block_lt_of_cell? w _ hx418_2)).trans hx418_2
           replace hx418_3 := (HB.out.cell (World.block_lt_of_cell? w _ hx418_3)).trans hx418_3
           replace hx418_4 := (HB.out.cell (World.block_lt_of_cell? w _ hx418_4)).trans hx418_4
           replace hx418_5 := (HB.out.cell (World.block_lt_of_cell? w _ hx418_5)).trans hx418_5
           replace hx418_6 := (HB.out.cell (World.block_lt_of_cell? w _ hx418_6)).trans hx418_6
           replace p418 := eq_true p418
           replace q418 := eq_true q418
           have p420 : 0 ≤ (x3_1 : Int) := of_decide_eq_true (by first | (with_reducible assumption) | assumption)
           have q420 : x3_1 < (l0.length : Int) := of_decide_eq_true (by first | (with_reducible assumption) | assumption)
           obtain ⟨ad420, e420, hx420_0, hx420_1, hx420_2, hx420_3, hx420_4, hx420_5, hx420_6⟩ := at_T34 HR0.out x3_1 p420 q420
           have hw420_6 := hx420_6
           have hw420_5 := hx420_5
           have hw420_4 := hx420_4
           have hw420_3 := hx420_3
           have hw420_2 := hx420_2
           have hw420_1 := hx420_1
           have hw420_0 := hx420_0
           obtain rfl : ad416 = ad420 := (by injection e420)
           replace hx420_0 := (HB.out.cell (World.block_lt_of_cell? w _ hx420_0)).trans hx420_0
           replace hx420_1 := (HB.out.cell (World.block_lt_of_cell? w _ hx420_1)).trans hx420_1
           replace hx420_2 := (HB.out.cell (World.block_lt_of_cell? w _ hx420_2)).trans hx420_2
           replace hx420_3 := (HB.out.cell (World.block_lt_of_cell? w _ hx420_3)).trans hx420_3
           replace hx420_4 := (HB.out.cell (World.block_lt_of_cell? w _ hx420_4)).trans hx420_4
           replace hx420_5 := (HB.out.cell (World.block_lt_of_cell? w _ hx420_5)).trans hx420_5
           replace hx420_6 := (HB.out.cell (World.block_lt_of_cell? w _ hx420_6)).trans hx420_6
           replace p420 := eq_true p420
           replace q420 := eq_true q420
           have p422 : 0 ≤ ((ji10) : Int) := of_decide_eq_true (by first | (with_reducible assumption) | assumption)
           have q422 : (ji10) < (l0.length : Int) := of_decide_eq_true (by first | (with_reducible assumption) | assumption)
           obtain ⟨ad422, e422, hx422_0, hx422_1, hx422_2, hx422_3, hx422_4, hx422_5, hx422_6⟩ := at_T34 HR0.out (ji10) p422 q422
           have hw422_6 := hx422_6
           have hw422_5 := hx422_5
           have hw422_4 := hx422_4
           have hw422_3 := hx422_3
           have hw422_2 := hx422_2
           have hw422_1 := hx422_1
           have hw422_0 := hx422_0
           obtain rfl : ad416 = ad422 := (by injection e422)
           replace hx422_0 := (HB.out.cell (World.block_lt_of_cell? w _ hx422_0)).trans hx422_0
           replace hx422_1 := (HB.out.cell (World.block_lt_of_cell? w _ hx422_1)).trans hx422_1
           replace hx422_2 := (HB.out.cell (World.block_lt_of_cell? w _ hx422_2)).trans hx422_2
           replace hx422_3 := (HB.out.cell (World.block_lt_of_cell? w _ hx422_3)).trans hx422_3
           replace hx422_4 := (HB.out.cell (World.block_lt_of_cell? w _ hx422_4)).trans hx422_4
           replace hx422_5 := (HB.out.cell (World.block_lt_of_cell? w _ hx422_5)).trans hx422_5
           replace hx422_6 := (HB.out.cell (World.block_lt_of_cell? w _ hx422_6)).trans hx422_6
           replace p422 := eq_true p422
           replace q422 := eq_true q422
           have p423 : 0 ≤ (x3_1 : Int) := of_decide_eq_true (by first | (with_reducible assumption) | assumption)
           have q423 : x3_1 < (l0.length : Int) := of_decide_eq_true (by first | (with_reducible assumption) | assumption)
           obtain ⟨ad423, e423, hx423_0, hx423_1, hx423_2, hx423_3, hx423_4, hx423_5, hx423_6⟩ := at_T34 HR0.out x3_1 p423 q423
           have hw423_6 := hx423_6
           have hw423_5 := hx423_5
           have hw423_4 := hx423_4
           have hw423_3 := hx423_3
           have hw423_2 := hx423_2
           have hw423_1 := hx423_1
           have hw423_0 := hx423_0
           obtain rfl : ad416 = ad423 := (by injection e423)
           replace hx423_0 := (HB.out.cell (World.block_lt_of_cell? w _ hx423_0)).trans hx423_0
           replace hx423_1 := (HB.out.cell (World.block_lt_of_cell? w _ hx423_1)).trans hx423_1
           replace hx423_2 := (HB.out.cell (World.block_lt_of_cell? w _ hx423_2)).trans hx423_2
           replace hx423_3 := (HB.out.cell (World.block_lt_of_cell? w _ hx423_3)).trans hx423_3
           replace hx423_4 := (HB.out.cell (World.block_lt_of_cell? w _ hx423_4)).trans hx423_4
           replace hx423_5 := (HB.out.cell (World.block_lt_of_cell? w _ hx423_5)).trans hx423_5
           replace hx423_6 := (HB.out.cell (World.block_lt_of_cell? w _ hx423_6)).trans hx423_6
           replace p423 := eq_true p423
           replace q423 := eq_true q423
           refine start_ (n := 44) (S := fun w' => w'.cell? (ad416.add ((x3_1).toNat * 7)) = some (.int .i64 ((rd_T34 l0 x3_1).f0)) ∧ w'.cell? ⟨(ad416.add ((x3_1).toNat * 7)).block, (ad416.add ((x3_1).toNat * 7)).off + 1, none⟩ = some (.int .i64 ((rd_T34 l0 x3_1).f1)) ∧ w'.cell? ⟨(ad416.add ((x3_1).toNat * 7)).block, (ad416.add ((x3_1).toNat * 7)).off + 2, none⟩ = some (.int .i64 ((rd_T34 l0 x3_1).f2)) ∧ w'.cell? ⟨(ad416.add ((x3_1).toNat * 7)).block, (ad416.add ((x3_1).toNat * 7)).off + 3, none⟩ = some (.int .i64 ((rd_T34 l0 x3_1).f3.f0)) ∧ w'.cell? ⟨(ad416.add ((x3_1).toNat * 7)).block, (ad416.add ((x3_1).toNat * 7)).off + 4, none⟩ = some (.int .i64 ((rd_T34 l0 x3_1).f3.f1)) ∧ w'.cell? ⟨(ad416.add ((x3_1).toNat * 7)).block, (ad416.add ((x3_1).toNat * 7)).off + 5, none⟩ = some (.int .i64 ((rd_T34 l0 x3_1).f3.f2)) ∧ w'.cell? ⟨(ad416.add ((x3_1).toNat * 7)).block, (ad416.add ((x3_1).toNat * 7)).off + 6, none⟩ = some (.int .i64 ((rd_T34 l0 x3_1).f3.f3)) ∧ w'.cell? (ad416.add ((x3_1).toNat * 7)) = some (.int .i64 ((rd_T34 l0 x3_1).f0)) ∧ w'.cell? ⟨(ad416.add ((x3_1).toNat * 7)).block, (ad416.add ((x3_1).toNat * 7)).off + 1, none⟩ = some (.int .i64 ((rd_T34 l0 x3_1).f1)) ∧ w'.cell? ⟨(ad416.add ((x3_1).toNat * 7)).block, (ad416.add ((x3_1).toNat * 7)).off + 2, none⟩ = some (.int .i64 ((rd_T34 l0 x3_1).f2)) ∧ w'.cell? ⟨(ad416.add ((x3_1).toNat * 7)).block, (ad416.add ((x3_1).toNat * 7)).off + 3, none⟩ = some (.int .i64 ((rd_T34 l0 x3_1).f3.f0)) ∧ w'.cell? ⟨(ad416.add ((x3_1).toNat * 7)).block, (ad416.add ((x3_1).toNat * 7)).off + 4, none⟩ = some (.int .i64 ((rd_T34 l0 x3_1).f3.f1)) ∧ w'.cell? ⟨(ad416.add ((x3_1).toNat * 7)).block, (ad416.add ((x3_1).toNat * 7)).off + 5, none⟩ = some (.int .i64 ((rd_T34 l0 x3_1).f3.f2)) ∧ w'.cell? ⟨(ad416.add ((x3_1).toNat * 7)).block, (ad416.add ((x3_1).toNat * 7)).off + 6, none⟩ = some (.int .i64 ((rd_T34 l0 x3_1).f3.f3)) ∧ w'.cell? (ad416.add ((x3_1).toNat * 7)) = some (.int .i64 ((rd_T34 l0 x3_1).f0)) ∧ w'.cell? ⟨(ad416.add ((x3_1).toNat * 7)).block, (ad416.add ((x3_1).toNat * 7)).off + 1, none⟩ = some (.int .i64 ((rd_T34 l0 x3_1).f1)) ∧ w'.cell? ⟨(ad416.add ((x3_1).toNat * 7)).block, (ad416.add ((x3_1).toNat * 7)).off + 2, none⟩ = some (.int .i64 ((rd_T34 l0 x3_1).f2)) ∧ w'.cell? ⟨(ad416.add ((x3_1).toNat * 7)).block, (ad416.add ((x3_1).toNat * 7)).off + 3, none⟩ = some (.int .i64 ((rd_T34 l0 x3_1).f3.f0)) ∧ w'.cell? ⟨(ad416.add ((x3_1).toNat * 7)).block, (ad416.add ((x3_1).toNat * 7)).off + 4, none⟩ = some (.int .i64 ((rd_T34 l0 x3_1).f3.f1)) ∧ w'.cell? ⟨(ad416.add ((x3_1).toNat * 7)).block, (ad416.add ((x3_1).toNat * 7)).off + 5, none⟩ = some (.int .i64 ((rd_T34 l0 x3_1).f3.f2)) ∧ w'.cell? ⟨(ad416.add ((x3_1).toNat * 7)).block, (ad416.add ((x3_1).toNat * 7)).off + 6, none⟩ = some (.int .i64 ((rd_T34 l0 x3_1).f3.f3)) ∧ w'.cell? (ad416.add ((x3_1).toNat * 7)) = some (.int .i64 ((rd_T34 l0 x3_1).f0)) ∧ w'.cell? ⟨(ad416.add ((x3_1).toNat * 7)).block, (ad416.add ((x3_1).toNat * 7)).off + 1, none⟩ = some (.int .i64 ((rd_T34 l0 x3_1).f1)) ∧ w'.cell? ⟨(ad416.add ((x3_1).toNat * 7)).block, (ad416.add ((x3_1).toNat * 7)).off + 2, none⟩ = some (.int .i64 ((rd_T34 l0 x3_1).f2)) ∧ w'.cell? ⟨(ad416.add ((x3_1).toNat * 7)).block, (ad416.add ((x3_1).toNat * 7)).off + 3, none⟩ = some (.int .i64 ((rd_T34 l0 x3_1).f3.f0)) ∧ w'.cell? ⟨(ad416.add ((x3_1).toNat * 7)).block, (ad416.add ((x3_1).toNat * 7)).off + 4, none⟩ = some (.int .i64 ((rd_T34 l0 x3_1).f3.f1)) ∧ w'.cell? ⟨(ad416.add ((x3_1).toNat * 7)).block, (ad416.add ((x3_1).toNat * 7)).off + 5, none⟩ = some (.int .i64 ((rd_T34 l0 x3_1).f3.f2)) ∧ w'.cell? ⟨(ad416.add ((x3_1).toNat * 7)).block, (ad416.add ((x3_1).toNat * 7)).off + 6, none⟩ = some (.int .i64 ((rd_T34 l0 x3_1).f3.f3)) ∧ w'.cell? (ad416.add (((ji10)).toNat * 7)) = some (.int .i64 ((rd_T34 l0 (ji10)).f0)) ∧ w'.cell? ⟨(ad416.add (((ji10)).toNat * 7)).block, (ad416.add (((ji10)).toNat * 7)).off + 1, none⟩ = some (.int .i64 ((rd_T34 l0 (ji10)).f1)) ∧ w'.cell? ⟨(ad416.add (((ji10)).toNat * 7)).block, (ad416.add (((ji10)).toNat * 7)).off + 2, none⟩ = some (.int .i64 ((rd_T34 l0 (ji10)).f2)) ∧ w'.cell? ⟨(ad416.add (((ji10)).toNat * 7)).block, (ad416.add (((ji10)).toNat * 7)).off + 3, none⟩ = some (.int .i64 ((rd_T34 l0 (ji10)).f3.f0)) ∧ w'.cell? ⟨(ad416.add (((ji10)).toNat * 7)).block, (ad416.add (((ji10)).toNat * 7)).off + 4, none⟩ = some (.int .i64 ((rd_T34 l0 (ji10)).f3.f1)) ∧ w'.cell? ⟨(ad416.add (((ji10)).toNat * 7)).block, (ad416.add (((ji10)).toNat * 7)).off + 5, none⟩ = some (.int .i64 ((rd_T34 l0 (ji10)).f3.f2)) ∧ w'.cell? ⟨(ad416.add (((ji10)).toNat * 7)).block, (ad416.add (((ji10)).toNat * 7)).off + 6, none⟩ = some (.int .i64 ((rd_T34 l0 (ji10)).f3.f3)) ∧ w'.cell? (ad416.add ((x3_1).toNat * 7)) = some (.int .i64 ((rd_T34 l0 x3_1).f0)) ∧ w'.cell? ⟨(ad416.add ((x3_1).toNat * 7)).block, (ad416.add ((x3_1).toNat * 7)).off + 1, none⟩ = some (.int .i64 ((rd_T34 l0 x3_1).f1)) ∧ w'.cell? ⟨(ad416.add ((x3_1).toNat * 7)).block, (ad416.add ((x3_1).toNat * 7)).off + 2, none⟩ = some (.int .i64 ((rd_T34 l0 x3_1).f2)) ∧ w'.cell? ⟨(ad416.add ((x3_1).toNat * 7)).block, (ad416.add ((x3_1).toNat * 7)).off + 3, none⟩ = some (.int .i64 ((rd_T34 l0 x3_1).f3.f0)) ∧ w'.cell? ⟨(ad416.add ((x3_1).toNat * 7)).block, (ad416.add ((x3_1).toNat * 7)).off + 4, none⟩ = some (.int .i64 ((rd_T34 l0 x3_1).f3.f1)) ∧ w'.cell? ⟨(ad416.add ((x3_1).toNat * 7)).block, (ad416.add ((x3_1).toNat * 7)).off + 5, none⟩ = some (.int .i64 ((rd_T34 l0 x3_1).f3.f2)) ∧ w'.cell? ⟨(ad416.add ((x3_1).toNat * 7)).block, (ad416.add ((x3_1).toNat * 7)).off + 6, none⟩ = some (.int .i64 ((rd_T34 l0 x3_1).f3.f3))) (ds := []) #[false, false, false, false, false, false, false, false, false, false, false, false, false, false, false, false, false, false, false, false, false, false, false, false, false, false, false, false, false, false, false, false, false, false, false, false, false, false, false, false, false, false, false, false] (by kernel_rfl) rfl rfl ⟨((HB.out.cell (World.block_lt_of_cell? w _ hw416_0)).trans hw416_0), ((HB.out.cell (World.block_lt_of_cell? w _ hw416_1)).trans hw416_1), ((HB.out.cell (World.block_lt_of_cell? w _ hw416_2)).trans hw416_2), ((HB.out.cell (World.block_lt_of_cell? w _ hw416_3)).trans hw416_3), ((HB.out.cell (World.block_lt_of_cell? w _ hw416_4)).trans hw416_4), ((HB.out.cell (World.block_lt_of_cell? w _ hw416_5)).trans hw416_5), ((HB.out.cell (World.block_lt_of_cell? w _ hw416_6)).trans hw416_6), ((HB.out.cell (World.block_lt_of_cell? w _ hw417_0)).trans hw417_0), ((HB.out.cell (World.block_lt_of_cell? w _ hw417_1)).trans hw417_1), ((HB.out.cell (World.block_lt_of_cell? w _ hw417_2)).trans hw417_2), ((HB.out.cell (World.block_lt_of_cell? w _ hw417_3)).trans hw417_3), ((HB.out.cell (World.block_lt_of_cell? w _ hw417_4)).trans hw417_4), ((HB.out.cell (World.block_lt_of_cell? w _ hw417_5)).trans hw417_5), ((HB.out.cell (World.block_lt_of_cell? w _ hw417_6)).trans hw417_6), ((HB.out.cell (World.block_lt_of_cell? w _ hw418_0)).trans hw418_0), ((HB.out.cell (World.block_lt_of_cell? w _ hw418_1)).trans hw418_1), ((HB.out.cell (World.block_lt_of_cell? w _ hw418_2)).trans hw418_2), ((HB.out.cell (World.block_lt_of_cell? w _ hw418_3)).trans hw418_3), ((HB.out.cell (World.block_lt_of_cell? w _ hw418_4)).trans hw418_4), ((HB.out.cell (World.block_lt_of_cell? w _ hw418_5)).trans hw418_5), ((HB.out.cell (World.block_lt_of_cell? w _ hw418_6)).trans hw418_6), ((HB.out.cell (World.block_lt_of_cell? w _ hw420_0)).trans hw420_0), ((HB.out.cell (World.block_lt_of_cell? w _ hw420_1)).trans hw420_1), ((HB.out.cell (World.block_lt_of_cell? w _ hw420_2)).trans hw420_2), ((HB.out.cell (World.block_lt_of_cell? w _ hw420_3)).trans hw420_3), ((HB.out.cell (World.block_lt_of_cell? w _ hw420_4)).trans hw420_4), ((HB.out.cell (World.block_lt_of_cell? w _ hw420_5)).trans hw420_5), ((HB.out.cell (World.block_lt_of_cell? w _ hw420_6)).trans hw420_6), ((HB.out.cell (World.block_lt_of_cell? w _ hw422_0)).trans hw422_0), ((HB.out.cell (World.block_lt_of_cell? w _ hw422_1)).trans hw422_1), ((HB.out.cell (World.block_lt_of_cell? w _ hw422_2)).trans hw422_2), ((HB.out.cell (World.block_lt_of_cell? w _ hw422_3)).trans hw422_3), ((HB.out.cell (World.block_lt_of_cell? w _ hw422_4)).trans hw422_4), ((HB.out.cell (World.block_lt_of_cell? w _ hw422_5)).trans hw422_5), ((HB.out.cell (World.block_lt_of_cell? w _ hw422_6)).trans hw422_6), ((HB.out.cell (World.block_lt_of_cell? w _ hw423_0)).trans hw423_0), ((HB.out.cell (World.block_lt_of_cell? w _ hw423_1)).trans hw423_1), ((HB.out.cell (World.block_lt_of_cell? w _ hw423_2)).trans hw423_2), ((HB.out.cell (World.block_lt_of_cell? w _ hw423_3)).trans hw423_3), ((HB.out.cell (World.block_lt_of_cell? w _ hw423_4)).trans hw423_4), ((HB.out.cell (World.block_lt_of_cell? w _ hw423_5)).trans hw423_5), ((HB.out.cell (World.block_lt_of_cell? w _ hw423_6)).trans hw423_6)⟩ (fun hHeld => ?_); refine with_tabW mutoscoperef5_Right.tab4 mutoscoperef5_Right.bits4 (fun HT_ HW_ => ?_)
           generalize wr.drew = w13 at HB hx416_0 hx416_1 hx416_2 hx416_3 hx416_4 hx416_5 hx416_6 hx417_0 hx417_1 hx417_2 hx417_3 hx417_4 hx417_5 hx417_6 hx418_0 hx418_1 hx418_2 hx418_3 hx418_4 hx418_5 hx418_6 hx420_0 hx420_1 hx420_2 hx420_3 hx420_4 hx420_5 hx420_6 hx422_0 hx422_1 hx422_2 hx422_3 hx422_4 hx422_5 hx422_6 hx423_0 hx423_1 hx423_2 hx423_3 hx423_4 hx423_5 hx423_6 hHeld ⊢
           refine pure_ (i := 0) (N := some 10) (v := ?_) (a' := ?_) #[true, false, false, false, false, false, false, false, false, false, false, false, false, false, false, false, false, false, false, false, false, false, false, false, false, false, false, false, false, false, false, false, false, false, false, false, false, false, false, false, false, false, false, false] rfl rfl (any_of HT_.out (by kernel_rfl)) (fun _ _ _ h => h) (Or.inl ⟨by rfl, ?_⟩) ?_ ?_
           rotate_left
           ·intro w'
            go_simp
            with_reducible rfl
           rotate_left
           ·simp only [Act.put, List.setIfInBounds_toArray, List.set_cons_zero, List.set_cons_succ, i64_w, i32_w]
            rfl
           refine pure_ (i := 1) (N := some 11) (v := ?_) (a' := ?_) #[true, true, false, false, false, false, false, false, false, false, false, false, false, false, false, false, false, false, false, false, false, false, false, false, false, false, false, false, false, false, false, false, false, false, false, false, false, false, false, false, false, false, false, false] rfl rfl (any_of HT_.out (by kernel_rfl)) (fun _ _ _ h => h) (Or.inl ⟨by rfl, ?_⟩) ?_ ?_
           rotate_left
           ·intro w'
            go_simp
            with_reducible rfl
           rotate_left
           ·simp only [Act.put, List.setIfInBounds_toArray, List.set_cons_zero, List.set_cons_succ, i64_w, i32_w]
            rfl
           refine pure_ (i := 2) (N := some 12) (v := ?_) (a' := ?_) #[true, true, true, false, false, false, false, false, false, false, false, false, false, false, false, false, false, false, false, false, false, false, false, false, false, false, false, false, false, false, false, false, false, false, false, false, false, false, false, false, false, false, false, false] rfl rfl (any_of HT_.out (by kernel_rfl)) (fun _ _ _ h => h) (Or.inl ⟨by rfl, ?_⟩) ?_ ?_
           rotate_left
           ·intro w'
            go_simp
            with_reducible rfl
           rotate_left
           ·simp only [Act.put, List.setIfInBounds_toArray, List.set_cons_zero, List.set_cons_succ, i64_w, i32_w]
            rfl
           refine pure_ (i := 3) (N := some 13) (v := ?_) (a' := ?_) #[true, true, true, true, false, false, false, false, false, false, false, false, false, false, false, false, false, false, false, false, false, false, false, false, false, false, false, false, false, false, false, false, false, false, false, false, false, false, false, false, false, false, false, false] rfl rfl (any_of HT_.out (by kernel_rfl)) (fun _ _ _ h => h) (Or.inl ⟨by rfl, ?_⟩) ?_ ?_
           rotate_left
           ·intro w'
            go_simp
            with_reducible rfl
           rotate_left
           ·simp only [Act.put, List.setIfInBounds_toArray, List.set_cons_zero, List.set_cons_succ, i64_w, i32_w]
            rfl
           refine pure_ (i := 5) (N := some 15) (v := ?_) (a' := ?_) #[true, true, true, true, false, true, false, false, false, false, false, false, false, false, false, false, false, false, false, false, false, false, false, false, false, false, false, false, false, false, false, false, false, false, false, false, false, false, false, false, false, false, false, false] rfl rfl (any_of HT_.out (by kernel_rfl)) (fun _ _ _ h => h) (Or.inl ⟨by rfl, ?_⟩) ?_ ?_
           rotate_left
           ·intro w'
            go_simp
            with_reducible rfl
           rotate_left
           ·simp only [Act.put, List.setIfInBounds_toArray, List.set_cons_zero, List.set_cons_succ, i64_w, i32_w]
            rfl
           refine pure_ (i := 6) (N := some 16) (v := ?_) (a' := ?_) #[true, true, true, true, false, true, true, false, false, false, false, false, false, false, false, false, false, false, false, false, false, false, false, false, false, false, false, false, false, false, false, false, false, false, false, false, false, false, false, false, false, false, false, false] rfl rfl (any_of HT_.out (by kernel_rfl)) (fun _ _ _ h => h) (Or.inl ⟨by rfl, ?_⟩) ?_ ?_
           rotate_left
           ·intro w'
            go_simp
            with_reducible rfl
           rotate_left
           ·simp only [Act.put, List.setIfInBounds_toArray, List.set_cons_zero, List.set_cons_succ, i64_w, i32_w]
            rfl
           refine pure_ (i := 7) (N := some 17) (v := ?_) (a' := ?_) #[true, true, true, true, false, true, true, true, false, false, false, false, false, false, false, false, false, false, false, false, false, false, false, false, false, false, false, false, false, false, false, false, false, false, false, false, false, false, false, false, false, false, false, false] rfl rfl (any_of HT_.out (by kernel_rfl)) (fun _ _ _ h => h) (Or.inl ⟨by rfl, ?_⟩) ?_ ?_
           rotate_left
           ·intro w'
            go_simp
            with_reducible rfl
           rotate_left
           ·simp only [Act.put, List.setIfInBounds_toArray, List.set_cons_zero, List.set_cons_succ, i64_w, i32_w]
            rfl
           refine pure_ (i := 8) (N := some 18) (v := ?_) (a' := ?_) #[true, true, true, true, false, true, true, true, true, false, false, false, false, false, false, false, false, false, false, false, false, false, false, false, false, false, false, false, false, false, false, false, false, false, false, false, false, false, false, false, false, false, false, false] rfl rfl (any_of HT_.out (by kernel_rfl)) (fun _ _ _ h => h) (Or.inl ⟨by rfl, ?_⟩) ?_ ?_
           rotate_left
           ·intro w'
            go_simp
            with_reducible rfl
           rotate_left
           ·simp only [Act.put, List.setIfInBounds_toArray, List.set_cons_zero, List.set_cons_succ, i64_w, i32_w]
            rfl
           refine pure_ (i := 10) (N := some 20) (v := ?_) (a' := ?_) #[true, true, true, true, false, true, true, true, true, false, true, false, false, false, false, false, false, false, false, false, false, false, false, false, false, false, false, false, false, false, false, false, false, false, false, false, false, false, false, false, false, false, false, false] rfl rfl (any_of HT_.out (by kernel_rfl)) (fun _ _ _ h => h) (Or.inl ⟨by rfl, ?_⟩) ?_ ?_
           rotate_left
           ·intro w'
            go_simp
            with_reducible rfl
           rotate_left
           ·simp only [Act.put, List.setIfInBounds_toArray, List.set_cons_zero, List.set_cons_succ, i64_w, i32_w]
            rfl
           refine pure_ (i := 11) (N := some 21) (v := ?_) (a' := ?_) #[true, true, true, true, false, true, true, true, true, false, true, true, false, false, false, false, false, false, false, false, false, false, false, false, false, false, false, false, false, false, false, false, false, false, false, false, false, false, false, false, false, false, false, false] rfl rfl (any_of HT_.out (by kernel_rfl)) (fun _ _ _ h => h) (Or.inl ⟨by rfl, ?_⟩) ?_ ?_
           rotate_left
           ·intro w'
            go_simp
            with_reducible rfl
           rotate_left
           ·simp only [Act.put, List.setIfInBounds_toArray, List.set_cons_zero, List.set_cons_succ, i64_w, i32_w]
            rfl
           refine pure_ (i := 12) (N := some 22) (v := ?_) (a' := ?_) #[true, true, true, true, false, true, true, true, true, false, true, true, true, false, false, false, false, false, false, false, false, false, false, false, false, false, false, false, false, false, false, false, false, false, false, false, false, false, false, false, false, false, false, false] rfl rfl (any_of HT_.out (by kernel_rfl)) (fun _ _ _ h => h) (Or.inl ⟨by rfl, ?_⟩) ?_ ?_
           rotate_left
           ·intro w'
            go_simp
            with_reducible rfl
           rotate_left
           ·simp only [Act.put, List.setIfInBounds_toArray, List.set_cons_zero, List.set_cons_succ, i64_w, i32_w]
            rfl
           refine pure_ (i := 13) (N := some 23) (v := ?_) (a' := ?_) #[true, true, true, true, false, true, true, true, true, false, true, true, true, true, false, false, false, false, false, false, false, false, false, false, false, false, false, false, false, false, false, false, false, false, false, false, false, false, false, false, false, false, false, false] rfl rfl (any_of HT_.out (by kernel_rfl)) (fun _ _ _ h => h) (Or.inl ⟨by rfl, ?_⟩) ?_ ?_
           rotate_left
           ·intro w'
            go_simp
            with_reducible rfl
           rotate_left
           ·simp only [Act.put, List.setIfInBounds_toArray, List.set_cons_zero, List.set_cons_succ, i64_w, i32_w]
            rfl
           refine take_ (i := 4) (N := some 14) (v := ?_) (a' := ?_) #[true, true, true, true, true, true, true, true, true, false, true, true, true, true, false, false, false, false, false, false, false, false, false, false, false, false, false, false, false, false, false, false, false, false, false, false, false, false, false, false, false, false, false, false] rfl rfl (take_ofW HT_.out HW_.out (by kernel_rfl)) (fun _ _ _ h => h) (Or.inl ⟨by rfl, ?_⟩) hHeld ?_ ?_
           rotate_left
           ·rintro w' ⟨s0, s1, s2, s3, s4, s5, s6, s7, s8, s9, s10, s11, s12, s13, s14, s15, s16, s17, s18, s19, s20, s21, s22, s23, s24, s25, s26, s27, s28, s29, s30, s31, s32, s33, s34, s35, s36, s37, s38, s39, s40, s41⟩
            go_simp
            with_reducible rfl
           rotate_left
           ·simp only [Act.put, List.setIfInBounds_toArray, List.set_cons_zero, List.set_cons_succ, i64_w, i32_w]
            rfl
           refine take_ (i := 9) (N := some 19) (v := ?_) (a' := ?_) #[true, true, true, true, true, true, true, true, true, true, true, true, true, true, false, false, false, false, false, false, false, false, false, false, false, false, false, false, false, false, false, false, false, false, false, false, false, false, false, false, false, false, false, false] rfl rfl (take_ofW HT_.out HW_.out (by kernel_rfl)) (fun _ _ _ h => h) (Or.inl ⟨by rfl, ?_⟩) hHeld ?_ ?_
           rotate_left
           ·rintro w' ⟨s0, s1, s2, s3, s4, s5, s6, s7, s8, s9, s10, s11, s12, s13, s14, s15, s16, s17, s18, s19, s20, s21, s22, s23, s24, s25, s26, s27, s28, s29, s30, s31, s32, s33, s34, s35, s36, s37, s38, s39, s40, s41⟩
            go_simp
            with_reducible rfl
           rotate_left
           ·simp only [Act.put, List.setIfInBounds_toArray, List.set_cons_zero, List.set_cons_succ, i64_w, i32_w]
            rfl
           refine take_ (i := 14) (N := some 24) (v := ?_) (a' := ?_) #[true, true, true, true, true, true, true, true, true, true, true, true, true, true, true, false, false, false, false, false, false, false, false, false, false, false, false, false, false, false, false, false, false, false, false, false, false, false, false, false, false, false, false, false] rfl rfl (take_ofW HT_.out HW_.out (by kernel_rfl)) (fun _ _ _ h => h) (Or.inl ⟨by rfl, ?_⟩) hHeld ?_ ?_
           rotate_left
           ·rintro w' ⟨s0, s1, s2, s3, s4, s5, s6, s7, s8, s9, s10, s11, s12, s13, s14, s15, s16, s17, s18, s19, s20, s21, s22, s23, s24, s25, s26, s27, s28, s29, s30, s31, s32, s33, s34, s35, s36, s37, s38, s39, s40, s41⟩
            go_simp
            with_reducible rfl
           rotate_left
           ·simp only [Act.put, List.setIfInBounds_toArray, List.set_cons_zero, List.set_cons_succ, i64_w, i32_w]
            rfl
           refine one_ (i := 15) (N := some 25) #[true, true, true, true, true, true, true, true, true, true, true, true, true, true, true, true, false, false, false, false, false, false, false, false, false, false, false, false, false, false, false, false, false, false, false, false, false, false, false, false, false, false, false, false] rfl rfl (one_of HT_.out (by kernel_rfl)) (by decide) (fun K hK => ?_)
           refine goes_ Try.func53 (by kernel_rfl) rfl #[.int .i64 ((rd_T34 l0 x3_1).f0), .int .i64 ((rd_T34 l0 x3_1).f2), .agg #[.int .i64 ((rd_T34 l0 x3_1).f3.f0), .int .i64 ((rd_T34 l0 x3_1).f3.f1), .int .i64 ((rd_T34 l0 x3_1).f3.f2), .int .i64 ((rd_T34 l0 x3_1).f3.f3)]] (by rfl) rfl rfl (by (try simp only [List.map_toArray, List.map_cons, List.map_nil]); first | done | rfl | (simp only [List.length_drop, List.length_take]; rfl)) ?_
           with_reducible refine (mutoscoperef5_Moves.calls ((rd_T34 l0 x3_1).f0) ((rd_T34 l0 x3_1).f2) ((rd_T34 l0 x3_1).f3.f0) ((rd_T34 l0 x3_1).f3.f1) ((rd_T34 l0 x3_1).f3.f2) ((rd_T34 l0 x3_1).f3.f3) true _ A5.out).mono ?_
           rintro e w14 ⟨rfl, hb⟩
           refine ⟨_, rfl, ?_⟩
           have n0_ := Aside0.mk (below_step (by repeat (first | (with_reducible first | exact HB.out | apply below_alloc | apply pw_below_drewN | apply below_drew1) | exact HB.out)) hb)
           clear HB
           have HB := n0_
           clear n0_
           (try clear hb)
           (try clear hb2)
           (try clear hk)
           (try clear hi)
           refine hK.out _ _ ⟨((HB.out.cell (World.block_lt_of_cell? w _ hw416_0)).trans hw416_0), ((HB.out.cell (World.block_lt_of_cell? w _ hw416_1)).trans hw416_1), ((HB.out.cell (World.block_lt_of_cell? w _ hw416_2)).trans hw416_2), ((HB.out.cell (World.block_lt_of_cell? w _ hw416_3)).trans hw416_3), ((HB.out.cell (World.block_lt_of_cell? w _ hw416_4)).trans hw416_4), ((HB.out.cell (World.block_lt_of_cell? w _ hw416_5)).trans hw416_5), ((HB.out.cell (World.block_lt_of_cell? w _ hw416_6)).trans hw416_6), ((HB.out.cell (World.block_lt_of_cell? w _ hw417_0)).trans hw417_0), ((HB.out.cell (World.block_lt_of_cell? w _ hw417_1)).trans hw417_1), ((HB.out.cell (World.block_lt_of_cell? w _ hw417_2)).trans hw417_2), ((HB.out.cell (World.block_lt_of_cell? w _ hw417_3)).trans hw417_3), ((HB.out.cell (World.block_lt_of_cell? w _ hw417_4)).trans hw417_4), ((HB.out.cell (World.block_lt_of_cell? w _ hw417_5)).trans hw417_5), ((HB.out.cell (World.block_lt_of_cell? w _ hw417_6)).trans hw417_6), ((HB.out.cell (World.block_lt_of_cell? w _ hw418_0)).trans hw418_0), ((HB.out.cell (World.block_lt_of_cell? w _ hw418_1)).trans hw418_1), ((HB.out.cell (World.block_lt_of_cell? w _ hw418_2)).trans hw418_2), ((HB.out.cell (World.block_lt_of_cell? w _ hw418_3)).trans hw418_3), ((HB.out.cell (World.block_lt_of_cell? w _ hw418_4)).trans hw418_4), ((HB.out.cell (World.block_lt_of_cell? w _ hw418_5)).trans hw418_5), ((HB.out.cell (World.block_lt_of_cell? w _ hw418_6)).trans hw418_6), ((HB.out.cell (World.block_lt_of_cell? w _ hw420_0)).trans hw420_0), ((HB.out.cell (World.block_lt_of_cell? w _ hw420_1)).trans hw420_1), ((HB.out.cell (World.block_lt_of_cell? w _ hw420_2)).trans hw420_2), ((HB.out.cell (World.block_lt_of_cell? w _ hw420_3)).trans hw420_3), ((HB.out.cell (World.block_lt_of_cell? w _ hw420_4)).trans hw420_4), ((HB.out.cell (World.block_lt_of_cell? w _ hw420_5)).trans hw420_5), ((HB.out.cell (World.block_lt_of_cell? w _ hw420_6)).trans hw420_6), ((HB.out.cell (World.block_lt_of_cell? w _ hw422_0)).trans hw422_0), ((HB.out.cell (World.block_lt_of_cell? w _ hw422_1)).trans hw422_1), ((HB.out.cell (World.block_lt_of_cell? w _ hw422_2)).trans hw422_2), ((HB.out.cell (World.block_lt_of_cell? w _ hw422_3)).trans hw422_3), ((HB.out.cell (World.block_lt_of_cell? w _ hw422_4)).trans hw422_4), ((HB.out.cell (World.block_lt_of_cell? w _ hw422_5)).trans hw422_5), ((HB.out.cell (World.block_lt_of_cell? w _ hw422_6)).trans hw422_6), ((HB.out.cell (World.block_lt_of_cell? w _ hw423_0)).trans hw423_0), ((HB.out.cell (World.block_lt_of_cell? w _ hw423_1)).trans hw423_1), ((HB.out.cell (World.block_lt_of_cell? w _ hw423_2)).trans hw423_2), ((HB.out.cell (World.block_lt_of_cell? w _ hw423_3)).trans hw423_3), ((HB.out.cell (World.block_lt_of_cell? w _ hw423_4)).trans hw423_4), ((HB.out.cell (World.block_lt_of_cell? w _ hw423_5)).trans hw423_5), ((HB.out.cell (World.block_lt_of_cell? w _ hw423_6)).trans hw423_6)⟩ (fun hHeld => ?_)
           clear hK K
           refine norm_ (a' := ?_) ?_ ?_
           rotate_left
           ·show Act.put _ (some 25) _ = _
            simp only [Act.put, List.setIfInBounds_toArray, List.set_cons_zero, List.set_cons_succ, i64_w, i32_w]
            rfl
           refine pure_ (i := 16) (N := some 26) (v := ?_) (a' := ?_) #[true, true, true, true, true, true, true, true, true, true, true, true, true, true, true, true, true, false, false, false, false, false, false, false, false, false, false, false, false, false, false, false, false, false, false, false, false, false, false, false, false, false, false, false] rfl rfl (any_of HT_.out (by kernel_rfl)) (fun _ _ _ h => h) (Or.inl ⟨by rfl, ?_⟩) ?_ ?_
           rotate_left
           ·intro w'
            go_simp
            with_reducible rfl
           rotate_left
           ·simp only [Act.put, List.setIfInBounds_toArray, List.set_cons_zero, List.set_cons_succ, i64_w, i32_w]
            rfl
           refine pure_ (i := 17) (N := some 27) (v := ?_) (a' := ?_) #[true, true, true, true, true, true, true, true, true, true, true, true, true, true, true, true, true, true, false, false, false, false, false, false, false, false, false, false, false, false, false, false, false, false, false, false, false, false, false, false, false, false, false, false] rfl rfl (any_of HT_.out (by kernel_rfl)) (fun _ _ _ h => h) (Or.inl ⟨by rfl, ?_⟩) ?_ ?_
           rotate_left
           ·intro w'
            go_simp
            with_reducible rfl
           rotate_left
           ·simp only [Act.put, List.setIfInBounds_toArray, List.set_cons_zero, List.set_cons_succ, i64_w, i32_w]
            rfl
           refine pure_ (i := 18) (N := some 28) (v := ?_) (a' := ?_) #[true, true, true, true, true, true, true, true, true, true, true, true, true, true, true, true, true, true, true, false, false, false, false, false, false, false, false, false, false, false, false, false, false, false, false, false, false, false, false, false, false, false, false, false] rfl rfl (any_of HT_.out (by kernel_rfl)) (fun _ _ _ h => h) (Or.inl ⟨by rfl, ?_⟩) ?_ ?_
           rotate_left
           ·intro w'
            go_simp
            with_reducible rfl
           rotate_left
           ·simp only [Act.put, List.setIfInBounds_toArray, List.set_cons_zero, List.set_cons_succ, i64_w, i32_w]
            rfl
           refine pure_ (i := 19) (N := some 29) (v := ?_) (a' := ?_) #[true, true, true, true, true, true, true, true, true, true, true, true, true, true, true, true, true, true, true, true, false, false, false, false, false, false, false, false, false, false, false, false, false, false, false, false, false, false, false, false, false, false, false, false] rfl rfl (any_of HT_.out (by kernel_rfl)) (fun _ _ _ h => h) (Or.inl ⟨by rfl, ?_⟩) ?_ ?_
           rotate_left
           ·intro w'
            go_simp
            with_reducible rfl
           rotate_left
           ·simp only [Act.put, List.setIfInBounds_toArray, List.set_cons_zero, List.set_cons_succ, i64_w, i32_w]
            rfl
           refine pure_ (i := 20) (N := some 30) (v := ?_) (a' := ?_) #[true, true, true, true, true, true, true, true, true, true, true, true, true, true, true, true, true, true, true, true, true, false, false, false, false, false, false, false, false, false, false, false, false, false, false, false, false, false, false, false, false, false, false, false] rfl rfl (any_of HT_.out (by kernel_rfl)) (fun _ _ _ h => h) (Or.inl ⟨by rfl, ?_⟩) ?_ ?_
           rotate_left
           ·intro w'
            go_simp
            with_reducible rfl
           rotate_left
           ·simp only [Act.put, List.setIfInBounds_toArray, List.set_cons_zero, List.set_cons_succ, i64_w, i32_w]
            rfl
           refine pure_ (i := 21) (N := some 31) (v := ?_) (a' := ?_) #[true, true, true, true, true, true, true, true, true, true, true, true, true, true, true, true, true, true, true, true, true, true, false, false, false, false, false, false, false, false, false, false, false, false, false, false, false, false, false, false, false, false, false, false] rfl rfl (any_of HT_.out (by kernel_rfl)) (fun _ _ _ h => h) (Or.inl ⟨by rfl, ?_⟩) ?_ ?_
           rotate_left
           ·intro w'
            go_simp
            with_reducible rfl
           rotate_left
           ·simp only [Act.put, List.setIfInBounds_toArray, List.set_cons_zero, List.set_cons_succ, i64_w, i32_w]
            rfl
           refine take_ (i := 22) (N := some 32) (v := ?_) (a' := ?_) #[true, true, true, true, true, true, true, true, true, true, true, true, true, true, true, true, true, true, true, true, true, true, true, false, false, false, false, false, false, false, false, false, false, false, false, false, false, false, false, false, false, false, false, false] rfl rfl (take_ofW HT_.out HW_.out (by kernel_rfl)) (fun _ _ _ h => h) (Or.inl ⟨by rfl, ?_⟩) hHeld ?_ ?_
           rotate_left
           ·rintro w' ⟨s0, s1, s2, s3, s4, s5, s6, s7, s8, s9, s10, s11, s12, s13, s14, s15, s16, s17, s18, s19, s20, s21, s22, s23, s24, s25, s26, s27, s28, s29, s30, s31, s32, s33, s34, s35, s36, s37, s38, s39, s40, s41⟩
            go_simp
            with_reducible rfl
           rotate_left
           ·simp only [Act.put, List.setIfInBounds_toArray, List.set_cons_zero, List.set_cons_succ, i64_w, i32_w]
            rfl
           refine one_ (i := 23) (N := some 33) #[true, true, true, true, true, true, true, true, true, true, true, true, true, true, true, true, true, true, true, true, true, true, true, true, false, false, false, false, false, false, false, false, false, false, false, false, false, false, false, false, false, false, false, false] rfl rfl (one_of HT_.out (by kernel_rfl)) (by decide) (fun K hK => ?_)
           refine goes_ Try.func49 (by kernel_rfl) rfl #[.int .i64 ((rd_T34 l0 x3_1).f1), .int .i64 (-67108864), .int .i64 67108864] (by rfl) rfl rfl (by (try simp only [List.map_toArray, List.map_cons, List.map_nil]); first | done | rfl | (simp only [List.length_drop, List.length_take]; rfl)) ?_
           with_reducible refine (mutoscoperef5_within.calls ((rd_T34 l0 x3_1).f1) (-67108864) 67108864 true _ A7.out).mono ?_
           rintro e w' ⟨rfl, ⟨nd, rfl⟩⟩
           refine ⟨_, rfl, ?_⟩
           refine hK.out _ _ ⟨((HB.out.cell (World.block_lt_of_cell? w _ hw416_0)).trans hw416_0), ((HB.out.cell (World.block_lt_of_cell? w _ hw416_1)).trans hw416_1), ((HB.out.cell (World.block_lt_of_cell? w _ hw416_2)).trans hw416_2), ((HB.out.cell (World.block_lt_of_cell? w _ hw416_3)).trans hw416_3), ((HB.out.cell (World.block_lt_of_cell? w _ hw416_4)).trans hw416_4), ((HB.out.cell (World.block_lt_of_cell? w _ hw416_5)).trans hw416_5), ((HB.out.cell (World.block_lt_of_cell? w _ hw416_6)).trans hw416_6), ((HB.out.cell (World.block_lt_of_cell? w _ hw417_0)).trans hw417_0), ((HB.out.cell (World.block_lt_of_cell? w _ hw417_1)).trans hw417_1), ((HB.out.cell (World.block_lt_of_cell? w _ hw417_2)).trans hw417_2), ((HB.out.cell (World.block_lt_of_cell? w _ hw417_3)).trans hw417_3), ((HB.out.cell (World.block_lt_of_cell? w _ hw417_4)).trans hw417_4), ((HB.out.cell (World.block_lt_of_cell? w _ hw417_5)).trans hw417_5), ((HB.out.cell (World.block_lt_of_cell? w _ hw417_6)).trans hw417_6), ((HB.out.cell (World.block_lt_of_cell? w _ hw418_0)).trans hw418_0), ((HB.out.cell (World.block_lt_of_cell? w _ hw418_1)).trans hw418_1), ((HB.out.cell (World.block_lt_of_cell? w _ hw418_2)).trans hw418_2), ((HB.out.cell (World.block_lt_of_cell? w _ hw418_3)).trans hw418_3), ((HB.out.cell (World.block_lt_of_cell? w _ hw418_4)).trans hw418_4), ((HB.out.cell (World.block_lt_of_cell? w _ hw418_5)).trans hw418_5), ((HB.out.cell (World.block_lt_of_cell? w _ hw418_6)).trans hw418_6), ((HB.out.cell (World.block_lt_of_cell? w _ hw420_0)).trans hw420_0), ((HB.out.cell (World.block_lt_of_cell? w _ hw420_1)).trans hw420_1), ((HB.out.cell (World.block_lt_of_cell? w _ hw420_2)).trans hw420_2), ((HB.out.cell (World.block_lt_of_cell? w _ hw420_3)).trans hw420_3), ((HB.out.cell (World.block_lt_of_cell? w _ hw420_4)).trans hw420_4), ((HB.out.cell (World.block_lt_of_cell? w _ hw420_5)).trans hw420_5), ((HB.out.cell (World.block_lt_of_cell? w _ hw420_6)).trans hw420_6), ((HB.out.cell (World.block_lt_of_cell? w _ hw422_0)).trans hw422_0), ((HB.out.cell (World.block_lt_of_cell? w _ hw422_1)).trans hw422_1), ((HB.out.cell (World.block_lt_of_cell? w _ hw422_2)).trans hw422_2), ((HB.out.cell (World.block_lt_of_cell? w _ hw422_3)).trans hw422_3), ((HB.out.cell (World.block_lt_of_cell? w _ hw422_4)).trans hw422_4), ((HB.out.cell (World.block_lt_of_cell? w _ hw422_5)).trans hw422_5), ((HB.out.cell (World.block_lt_of_cell? w _ hw422_6)).trans hw422_6), ((HB.out.cell (World.block_lt_of_cell? w _ hw423_0)).trans hw423_0), ((HB.out.cell (World.block_lt_of_cell? w _ hw423_1)).trans hw423_1), ((HB.out.cell (World.block_lt_of_cell? w _ hw423_2)).trans hw423_2), ((HB.out.cell (World.block_lt_of_cell? w _ hw423_3)).trans hw423_3), ((HB.out.cell (World.block_lt_of_cell? w _ hw423_4)).trans hw423_4), ((HB.out.cell (World.block_lt_of_cell? w _ hw423_5)).trans hw423_5), ((HB.out.cell (World.block_lt_of_cell? w _ hw423_6)).trans hw423_6)⟩ (fun hHeld => ?_)
           clear hK K
           refine norm_ (a' := ?_) ?_ ?_
           rotate_left
           ·show Act.put _ (some 33) _ = _
            simp only [Act.put, List.setIfInBounds_toArray, List.set_cons_zero, List.set_cons_succ, i64_w, i32_w]
            rfl
           refine pure_ (i := 24) (N := some 34) (v := ?_) (a' := ?_) #[true, true, true, true, true, true, true, true, true, true, true, true, true, true, true, true, true, true, true, true, true, true, true, true, true, false, false, false, false, false, false, false, false, false, false, false, false, false, false, false, false, false, false, false] rfl rfl (any_of HT_.out (by kernel_rfl)) (fun _ _ _ h => h) (Or.inl ⟨by rfl, ?_⟩) ?_ ?_
           rotate_left
           ·intro w'
            go_simp
            with_reducible rfl
           rotate_left
           ·simp only [Act.put, List.setIfInBounds_toArray, List.set_cons_zero, List.set_cons_succ, i64_w, i32_w]
            rfl
           refine pure_ (i := 25) (N := some 35) (v := ?_) (a' := ?_) #[true, true, true, true, true, true, true, true, true, true, true, true, true, true, true, true, true, true, true, true, true, true, true, true, true, true, false, false, false, false, false, false, false, false, false, false, false, false, false, false, false, false, false, false] rfl rfl (any_of HT_.out (by kernel_rfl)) (fun _ _ _ h => h) (Or.inl ⟨by rfl, ?_⟩) ?_ ?_
           rotate_left
           ·intro w'
            go_simp
            with_reducible rfl
           rotate_left
           ·simp only [Act.put, List.setIfInBounds_toArray, List.set_cons_zero, List.set_cons_succ, i64_w, i32_w]
            rfl
           refine pure_ (i := 26) (N := some 36) (v := ?_) (a' := ?_) #[true, true, true, true, true, true, true, true, true, true, true, true, true, true, true, true, true, true, true, true, true, true, true, true, true, true, true, false, false, false, false, false, false, false, false, false, false, false, false, false, false, false, false, false] rfl rfl (any_of HT_.out (by kernel_rfl)) (fun _ _ _ h => h) (Or.inl ⟨by rfl, ?_⟩) ?_ ?_
           rotate_left
           ·intro w'
            go_simp
            with_reducible rfl
           rotate_left
           ·simp only [Act.put, List.setIfInBounds_toArray, List.set_cons_zero, List.set_cons_succ, i64_w, i32_w]
            rfl
           refine pure_ (i := 27) (N := some 37) (v := ?_) (a' := ?_) #[true, true, true, true, true, true, true, true, true, true, true, true, true, true, true, true, true, true, true, true, true, true, true, true, true, true, true, true, false, false, false, false, false, false, false, false, false, false, false, false, false, false, false, false] rfl rfl (any_of HT_.out (by kernel_rfl)) (fun _ _ _ h => h) (Or.inl ⟨by rfl, ?_⟩) ?_ ?_
           rotate_left
           ·intro w'
            go_simp
            with_reducible rfl
           rotate_left
           ·simp only [Act.put, List.setIfInBounds_toArray, List.set_cons_zero, List.set_cons_succ, i64_w, i32_w]
            rfl
           refine pure_ (i := 28) (N := some 38) (v := ?_) (a' := ?_) #[true, true, true, true, true, true, true, true, true, true, true, true, true, true, true, true, true, true, true, true, true, true, true, true, true, true, true, true, true, false, false, false, false, false, false, false, false, false, false, false, false, false, false, false] rfl rfl (any_of HT_.out (by kernel_rfl)) (fun _ _ _ h => h) (Or.inl ⟨by rfl, ?_⟩) ?_ ?_
           rotate_left
           ·intro w'
            go_simp
            with_reducible rfl
           rotate_left
           ·simp only [Act.put, List.setIfInBounds_toArray, List.set_cons_zero, List.set_cons_succ, i64_w, i32_w]
            rfl
           refine pure_ (i := 29) (N := some 39) (v := ?_) (a' := ?_) #[true, true, true, true, true, true, true, true, true, true, true, true, true, true, true, true, true, true, true, true, true, true, true, true, true, true, true, true, true, true, false, false, false, false, false, false, false, false, false, false, false, false, false, false] rfl rfl (any_of HT_.out (by kernel_rfl)) (fun _ _ _ h => h) (Or.inl ⟨by rfl, ?_⟩) ?_ ?_
           rotate_left
           ·intro w'
            go_simp
            with_reducible rfl
           rotate_left
           ·simp only [Act.put, List.setIfInBounds_toArray, List.set_cons_zero, List.set_cons_succ, i64_w, i32_w]
            rfl
           refine pure_ (i := 30) (N := some 40) (v := ?_) (a' := ?_) #[true, true, true, true, true, true, true, true, true, true, true, true, true, true, true, true, true, true, true, true, true, true, true, true, true, true, true, true, true, true, true, false, false, false, false, false, false, false, false, false, false, false, false, false] rfl rfl (any_of HT_.out (by kernel_rfl)) (fun _ _ _ h => h) (Or.inl ⟨by rfl, ?_⟩) ?_ ?_
           rotate_left
           ·intro w'
            go_simp
            with_reducible rfl
           rotate_left
           ·simp only [Act.put, List.setIfInBounds_toArray, List.set_cons_zero, List.set_cons_succ, i64_w, i32_w]
            rfl
           refine pure_ (i := 31) (N := some 41) (v := ?_) (a' := ?_) #[true, true, true, true, true, true, true, true, true, true, true, true, true, true, true, true, true, true, true, true, true, true, true, true, true, true, true, true, true, true, true, true, false, false, false, false, false, false, false, false, false, false, false, false] rfl rfl (any_of HT_.out (by kernel_rfl)) (fun _ _ _ h => h) (Or.inl ⟨by rfl, ?_⟩) ?_ ?_
           rotate_left
           ·intro w'
            go_simp
            with_reducible rfl
           rotate_left
           ·simp only [Act.put, List.setIfInBounds_toArray, List.set_cons_zero, List.set_cons_succ, i64_w, i32_w]
            rfl
           refine pure_ (i := 32) (N := some 42) (v := ?_) (a' := ?_) #[true, true, true, true, true, true, true, true, true, true, true, true, true, true, true, true, true, true, true, true, true, true, true, true, true, true, true, true, true, true, true, true, true, false, false, false, false, false, false, false, false, false, false, false] rfl rfl (any_of HT_.out (by kernel_rfl)) (fun _ _ _ h => h) (Or.inl ⟨by rfl, ?_⟩) ?_ ?_
           rotate_left
           ·intro w'
            go_simp
            with_reducible rfl
           rotate_left
           ·simp only [Act.put, List.setIfInBounds_toArray, List.set_cons_zero, List.set_cons_succ, i64_w, i32_w]
            rfl
           refine pure_ (i := 33) (N := some 43) (v := ?_) (a' := ?_) #[true, true, true, true, true, true, true, true, true, true, true, true, true, true, true, true, true, true, true, true, true, true, true, true, true, true, true, true, true, true, true, true, true, true, false, false, false, false, false, false, false, false, false, false] rfl rfl (any_of HT_.out (by kernel_rfl)) (fun _ _ _ h => h) (Or.inl ⟨by rfl, ?_⟩) ?_ ?_
           rotate_left
           ·intro w'
            go_simp
            with_reducible rfl
           rotate_left
           ·simp only [Act.put, List.setIfInBounds_toArray, List.set_cons_zero, List.set_cons_succ, i64_w, i32_w]
            rfl
           refine pure_ (i := 34) (N := some 44) (v := ?_) (a' := ?_) #[true, true, true, true, true, true, true, true, true, true, true, true, true, true, true, true, true, true, true, true, true, true, true, true, true, true, true, true, true, true, true, true, true, true, true, false, false, false, false, false, false, false, false, false] rfl rfl (any_of HT_.out (by kernel_rfl)) (fun _ _ _ h => h) (Or.inl ⟨by rfl, ?_⟩) ?_ ?_
           rotate_left
           ·intro w'
            go_simp
            with_reducible rfl
           rotate_left
           ·simp only [Act.put, List.setIfInBounds_toArray, List.set_cons_zero, List.set_cons_succ, i64_w, i32_w]
            rfl
           refine pure_ (i := 36) (N := some 46) (v := ?_) (a' := ?_) #[true, true, true, true, true, true, true, true, true, true, true, true, true, true, true, true, true, true, true, true, true, true, true, true, true, true, true, true, true, true, true, true, true, true, true, false, true, false, false, false, false, false, false, false] rfl rfl (any_of HT_.out (by kernel_rfl)) (fun _ _ _ h => h) (Or.inl ⟨by rfl, ?_⟩) ?_ ?_
           rotate_left
           ·intro w'
            go_simp
            with_reducible rfl
           rotate_left
           ·simp only [Act.put, List.setIfInBounds_toArray, List.set_cons_zero, List.set_cons_succ, i64_w, i32_w]
            rfl
           refine pure_ (i := 37) (N := some 47) (v := ?_) (a' := ?_) #[true, true, true, true, true, true, true, true, true, true, true, true, true, true, true, true, true, true, true, true, true, true, true, true, true, true, true, true, true, true, true, true, true, true, true, false, true, true, false, false, false, false, false, false] rfl rfl (any_of HT_.out (by kernel_rfl)) (fun _ _ _ h => h) (Or.inl ⟨by rfl, ?_⟩) ?_ ?_
           rotate_left
           ·intro w'
            go_simp
            with_reducible rfl
           rotate_left
           ·simp only [Act.put, List.setIfInBounds_toArray, List.set_cons_zero, List.set_cons_succ, i64_w, i32_w]
            rfl
           refine pure_ (i := 38) (N := some 48) (v := ?_) (a' := ?_) #[true, true, true, true, true, true, true, true, true, true, true, true, true, true, true, true, true, true, true, true, true, true, true, true, true, true, true, true, true, true, true, true, true, true, true, false, true, true, true, false, false, false, false, false] rfl rfl (any_of HT_.out (by kernel_rfl)) (fun _ _ _ h => h) (Or.inl ⟨by rfl, ?_⟩) ?_ ?_
           rotate_left
           ·intro w'
            go_simp
            with_reducible rfl
           rotate_left
           ·simp only [Act.put, List.setIfInBounds_toArray, List.set_cons_zero, List.set_cons_succ, i64_w, i32_w]
            rfl
           refine pure_ (i := 39) (N := some 49) (v := ?_) (a' := ?_) #[true, true, true, true, true, true, true, true, true, true, true, true, true, true, true, true, true, true, true, true, true, true, true, true, true, true, true, true, true, true, true, true, true, true, true, false, true, true, true, true, false, false, false, false] rfl rfl (any_of HT_.out (by kernel_rfl)) (fun _ _ _ h => h) (Or.inl ⟨by rfl, ?_⟩) ?_ ?_
           rotate_left
           ·intro w'
            go_simp
            with_reducible rfl
           rotate_left
           ·simp only [Act.put, List.setIfInBounds_toArray, List.set_cons_zero, List.set_cons_succ, i64_w, i32_w]
            rfl
           refine take_ (i := 35) (N := some 45) (v := ?_) (a' := ?_) #[true, true, true, true, true, true, true, true, true, true, true, true, true, true, true, true, true, true, true, true, true, true, true, true, true, true, true, true, true, true, true, true, true, true, true, true, true, true, true, true, false, false, false, false] rfl rfl (take_ofW HT_.out HW_.out (by kernel_rfl)) (fun _ _ _ h => h) (Or.inl ⟨by rfl, ?_⟩) hHeld ?_ ?_
           rotate_left
           ·rintro w' ⟨s0, s1, s2, s3, s4, s5, s6, s7, s8, s9, s10, s11, s12, s13, s14, s15, s16, s17, s18, s19, s20, s21, s22, s23, s24, s25, s26, s27, s28, s29, s30, s31, s32, s33, s34, s35, s36, s37, s38, s39, s40, s41⟩
            go_simp
            with_reducible rfl
           rotate_left
           ·simp only [Act.put, List.setIfInBounds_toArray, List.set_cons_zero, List.set_cons_succ, i64_w, i32_w]
            rfl
           refine take_ (i := 40) (N := some 50) (v := ?_) (a' := ?_) #[true, true, true, true, true, true, true, true, true, true, true, true, true, true, true, true, true, true, true, true, true, true, true, true, true, true, true, true, true, true, true, true, true, true, true, true, true, true, true, true, true, false, false, false] rfl rfl (take_ofW HT_.out HW_.out (by kernel_rfl)) (fun _ _ _ h => h) (Or.inl ⟨by rfl, ?_⟩) hHeld ?_ ?_
           rotate_left
           ·rintro w' ⟨s0, s1, s2, s3, s4, s5, s6, s7, s8, s9, s10, s11, s12, s13, s14, s15, s16, s17, s18, s19, s20, s21, s22, s23, s24, s25, s26, s27, s28, s29, s30, s31, s32, s33, s34, s35, s36, s37, s38, s39, s40, s41⟩
            go_simp
            with_reducible rfl
           rotate_left
           ·simp only [Act.put, List.setIfInBounds_toArray, List.set_cons_zero, List.set_cons_succ, i64_w, i32_w]
            rfl
           refine pure_ (i := 41) (N := some 51) (v := ?_) (a' := ?_) #[true, true, true, true, true, true, true, true, true, true, true, true, true, true, true, true, true, true, true, true, true, true, true, true, true, true, true, true, true, true, true, true, true, true, true, true, true, true, true, true, true, true, false, false] rfl rfl (any_of HT_.out (by kernel_rfl)) (fun _ _ _ h => h) (Or.inl ⟨by rfl, ?_⟩) ?_ ?_
           rotate_left
           ·intro w'
            go_simp
            with_reducible rfl
           rotate_left
           ·simp only [Act.put, List.setIfInBounds_toArray, List.set_cons_zero, List.set_cons_succ, i64_w, i32_w]
            rfl
           refine pure_ (i := 42) (N := some 52) (v := ?_) (a' := ?_) #[true, true, true, true, true, true, true, true, true, true, true, true, true, true, true, true, true, true, true, true, true, true, true, true, true, true, true, true, true, true, true, true, true, true, true, true, true, true, true, true, true, true, true, false] rfl rfl (any_of HT_.out (by kernel_rfl)) (fun _ _ _ h => h) (Or.inl ⟨by rfl, ?_⟩) ?_ ?_
           rotate_left
           ·intro w'
            go_simp
            with_reducible rfl
           rotate_left
           ·simp only [Act.put, List.setIfInBounds_toArray, List.set_cons_zero, List.set_cons_succ, i64_w, i32_w]
            rfl
           refine pure_ (i := 43) (N := some 53) (v := ?_) (a' := ?_) #[true, true, true, true, true, true, true, true, true, true, true, true, true, true, true, true, true, true, true, true, true, true, true, true, true, true, true, true, true, true, true, true, true, true, true, true, true, true, true, true, true, true, true, true] rfl rfl (any_of HT_.out (by kernel_rfl)) (fun _ _ _ h => h) (Or.inl ⟨by rfl, ?_⟩) ?_ ?_
           rotate_left
           ·intro w'
            go_simp
            with_reducible rfl
           rotate_left
           ·simp only [Act.put, List.setIfInBounds_toArray, List.set_cons_zero, List.set_cons_succ, i64_w, i32_w]
            rfl
           refine done_ (done_of HT_.out (by kernel_rfl)) ?_
           try go_wp2
           go_meet
           case rel => exact ⟨_, (decide (((rd_T34 l0 (ji10)).f0) ≥ ((rd_T34 l0 x3_1).f0))), (by first | rfl | (simp; done) | (simp only [← hji10] <;> (first | rfl | simp)) | (simp [*]; done)), H', ⟨by have := HK1.out; first | omega | exact Nat.le_refl _⟩, ⟨by repeat (first | (with_reducible first | exact HB.out | apply below_alloc | apply pw_below_drewN | apply below_drew1) | exact HB.out)⟩⟩
          ·rw [if_neg c12] at H
           exact absurd H (by simp)
         ·rw [if_neg c11] at H
          exact absurd H (by simp)
        ·rw [if_neg c9] at H
         have c9b0 : decide (0 < x3_1) = false := decide_eq_false c9
         clear c9
         have H' := Aside0.mk H
         clear H
         try go_wp2
         have n0_ := Aside0.mk (below_drew1 HB.out)
         clear HB
         have HB := n0_
         clear n0_
         have p416 : 0 ≤ (x3_1 : Int) := of_decide_eq_true (by first | (with_reducible assumption) | assumption)
         have q416 : x3_1 < (l0.length : Int) := of_decide_eq_true (by first | (with_reducible assumption) | assumption)
         obtain ⟨ad416, e416, hx416_0, hx416_1, hx416_2, hx416_3, hx416_4, hx416_5, hx416_6⟩ := at_T34 HR0.out x3_1 p416 q416
         have hw416_6 := hx416_6
         have hw416_5 := hx416_5
         have hw416_4 := hx416_4
         have hw416_3 := hx416_3
         have hw416_2 := hx416_2
         have hw416_1 := hx416_1
         have hw416_0 := hx416_0
         cases e416
         replace hx416_0 := (HB.out.cell (World.block_lt_of_cell? w _ hx416_0)).trans hx416_0
         replace hx416_1 := (HB.out.cell (World.block_lt_of_cell? w _ hx416_1)).trans hx416_1
         replace hx416_2 := (HB.out.cell (World.block_lt_of_cell? w _ hx416_2)).trans hx416_2
         replace hx416_3 := (HB.out.cell (World.block_lt_of_cell? w _ hx416_3)).trans hx416_3
         replace hx416_4 := (HB.out.cell (World.block_lt_of_cell? w _ hx416_4)).trans hx416_4
         replace hx416_5 := (HB.out.cell (World.block_lt_of_cell? w _ hx416_5)).trans hx416_5
         replace hx416_6 := (HB.out.cell (World.block_lt_of_cell? w _ hx416_6)).trans hx416_6
         replace p416 := eq_true p416
         replace q416 := eq_true q416
         have p417 : 0 ≤ (x3_1 : Int) := of_decide_eq_true (by first | (with_reducible assumption) | assumption)
         have q417 : x3_1 < (l0.length : Int) := of_decide_eq_true (by first | (with_reducible assumption) | assumption)
         obtain ⟨ad417, e417, hx417_0, hx417_1, hx417_2, hx417_3, hx417_4, hx417_5, hx417_6⟩ := at_T34 HR0.out x3_1 p417 q417
         have hw417_6 := hx417_6
         have hw417_5 := hx417_5
         have hw417_4 := hx417_4
         have hw417_3 := hx417_3
         have hw417_2 := hx417_2
         have hw417_1 := hx417_1
         have hw417_0 := hx417_0
         obtain rfl : ad416 = ad417 := (by injection e417)
         replace hx417_0 := (HB.out.cell (World.block_lt_of_cell? w _ hx417_0)).trans hx417_0
         replace hx417_1 := (HB.out.cell (World.block_lt_of_cell? w _ hx417_1)).trans hx417_1
         replace hx417_2 := (HB.out.cell (World.block_lt_of_cell? w _ hx417_2)).trans hx417_2
         replace hx417_3 := (HB.out.cell (World.block_lt_of_cell? w _ hx417_3)).trans hx417_3
         replace hx417_4 := (HB.out.cell (World.block_lt_of_cell? w _ hx417_4)).trans hx417_4
         replace hx417_5 := (HB.out.cell (World.block_lt_of_cell? w _ hx417_5)).trans hx417_5
         replace hx417_6 := (HB.out.cell (World.block_lt_of_cell? w _ hx417_6)).trans hx417_6
         replace p417 := eq_true p417
         replace q417 := eq_true q417
         have p418 : 0 ≤ (x3_1 : Int) := of_decide_eq_true (by first | (with_reducible assumption) | assumption)
         have q418 : x3_1 < (l0.length : Int) := of_decide_eq_true (by first | (with_reducible assumption) | assumption)
         obtain ⟨ad418, e418, hx418_0, hx418_1, hx418_2, hx418_3, hx418_4, hx418_5, hx418_6⟩ := at_T34 HR0.out x3_1 p418 q418
         have hw418_6 := hx418_6
         have hw418_5 := hx418_5
         have hw418_4 := hx418_4
         have hw418_3 := hx418_3
         have hw418_2 := hx418_2
         have hw418_1 := hx418_1
         have hw418_0 := hx418_0
         obtain rfl : ad416 = ad418 := (by injection e418)
         replace hx418_0 := (HB.out.cell (World.block_lt_of_cell? w _ hx418_0)).trans hx418_0
         replace hx418_1 := (HB.out.cell (World.block_lt_of_cell? w _ hx418_1)).trans hx418_1
         replace hx418_2 := (HB.out.cell (World.block_lt_of_cell? w _ hx418_2)).trans hx418_2
         replace hx418_3 := (HB.out.cell (World.block_lt_of_cell? w _ hx418_3)).trans hx418_3
         replace hx418_4 := (HB.out.cell (World.block_lt_of_cell? w _ hx418_4)).trans hx418_4
         replace hx418_5 := (HB.out.cell (World.block_lt_of_cell? w _ hx418_5)).trans hx418_5
         replace hx418_6 := (HB.out.cell (World.block_lt_of_cell? w _ hx418_6)).trans hx418_6
         replace p418 := eq_true p418
         replace q418 := eq_true q418
         have p420 : 0 ≤ (x3_1 : Int) := of_decide_eq_true (by first | (with_reducible assumption) | assumption)
         have q420 : x3_1 < (l0.length : Int) := of_decide_eq_true (by first | (with_reducible assumption) | assumption)
         obtain ⟨ad420, e420, hx420_0, hx420_1, hx420_2, hx420_3, hx420_4, hx420_5, hx420_6⟩ := at_T34 HR0.out x3_1 p420 q420
         have hw420_6 := hx420_6
         have hw420_5 := hx420_5
         have hw420_4 := hx420_4
         have hw420_3 := hx420_3
         have hw420_2 := hx420_2
         have hw420_1 := hx420_1
         have hw420_0 := hx420_0
         obtain rfl : ad416 = ad420 := (by injection e420)
         replace hx420_0 := (HB.out.cell (World.block_lt_of_cell? w _ hx420_0)).trans hx420_0
         replace hx420_1 := (HB.out.cell (World.block_lt_of_cell? w _ hx420_1)).trans hx420_1
         replace hx420_2 := (HB.out.cell (World.block_lt_of_cell? w _ hx420_2)).trans hx420_2
         replace hx420_3 := (HB.out.cell (World.block_lt_of_cell? w _ hx420_3)).trans hx420_3
         replace hx420_4 := (HB.out.cell (World.block_lt_of_cell? w _ hx420_4)).trans hx420_4
         replace hx420_5 := (HB.out.cell (World.block_lt_of_cell? w _ hx420_5)).trans hx420_5
         replace hx420_6 := (HB.out.cell (World.block_lt_of_cell? w _ hx420_6)).trans hx420_6
         replace p420 := eq_true p420
         replace q420 := eq_true q420
         refine start_ (n := 44) (S := fun w' => w'.cell? (ad416.add ((x3_1).toNat * 7)) = some (.int .i64 ((rd_T34 l0 x3_1).f0)) ∧ w'.cell? ⟨(ad416.add ((x3_1).toNat * 7)).block, (ad416.add ((x3_1).toNat * 7)).off + 1, none⟩ = some (.int .i64 ((rd_T34 l0 x3_1).f1)) ∧ w'.cell? ⟨(ad416.add ((x3_1).toNat * 7)).block, (ad416.add ((x3_1).toNat * 7)).off + 2, none⟩ = some (.int .i64 ((rd_T34 l0 x3_1).f2)) ∧ w'.cell? ⟨(ad416.add ((x3_1).toNat * 7)).block, (ad416.add ((x3_1).toNat * 7)).off + 3, none⟩ = some (.int .i64 ((rd_T34 l0 x3_1).f3.f0)) ∧ w'.cell? ⟨(ad416.add ((x3_1).toNat * 7)).block, (ad416.add ((x3_1).toNat * 7)).off + 4, none⟩ = some (.int .i64 ((rd_T34 l0 x3_1).f3.f1)) ∧ w'.cell? ⟨(ad416.add ((x3_1).toNat * 7)).block, (ad416.add ((x3_1).toNat * 7)).off + 5, none⟩ = some (.int .i64 ((rd_T34 l0 x3_1).f3.f2)) ∧ w'.cell? ⟨(ad416.add ((x3_1).toNat * 7)).block, (ad416.add ((x3_1).toNat * 7)).off + 6, none⟩ = some (.int .i64 ((rd_T34 l0 x3_1).f3.f3)) ∧ w'.cell? (ad416.add ((x3_1).toNat * 7)) = some (.int .i64 ((rd_T34 l0 x3_1).f0)) ∧ w'.cell? ⟨(ad416.add ((x3_1).toNat * 7)).block, (ad416.add ((x3_1).toNat * 7)).off + 1, none⟩ = some (.int .i64 ((rd_T34 l0 x3_1).f1)) ∧ w'.cell? ⟨(ad416.add ((x3_1).toNat * 7)).block, (ad416.add ((x3_1).toNat * 7)).off + 2, none⟩ = some (.int .i64 ((rd_T34 l0 x3_1).f2)) ∧ w'.cell? ⟨(ad416.add ((x3_1).toNat * 7)).block, (ad416.add ((x3_1).toNat * 7)).off + 3, none⟩ = some (.int .i64 ((rd_T34 l0 x3_1).f3.f0)) ∧ w'.cell? ⟨(ad416.add ((x3_1).toNat * 7)).block, (ad416.add ((x3_1).toNat * 7)).off + 4, none⟩ = some (.int .i64 ((rd_T34 l0 x3_1).f3.f1)) ∧ w'.cell? ⟨(ad416.add ((x3_1).toNat * 7)).block, (ad416.add ((x3_1).toNat * 7)).off + 5, none⟩ = some (.int .i64 ((rd_T34 l0 x3_1).f3.f2)) ∧ w'.cell? ⟨(ad416.add ((x3_1).toNat * 7)).block, (ad416.add ((x3_1).toNat * 7)).off + 6, none⟩ = some (.int .i64 ((rd_T34 l0 x3_1).f3.f3)) ∧ w'.cell? (ad416.add ((x3_1).toNat * 7)) = some (.int .i64 ((rd_T34 l0 x3_1).f0)) ∧ w'.cell? ⟨(ad416.add ((x3_1).toNat * 7)).block, (ad416.add ((x3_1).toNat * 7)).off + 1, none⟩ = some (.int .i64 ((rd_T34 l0 x3_1).f1)) ∧ w'.cell? ⟨(ad416.add ((x3_1).toNat * 7)).block, (ad416.add ((x3_1).toNat * 7)).off + 2, none⟩ = some (.int .i64 ((rd_T34 l0 x3_1).f2)) ∧ w'.cell? ⟨(ad416.add ((x3_1).toNat * 7)).block, (ad416.add ((x3_1).toNat * 7)).off + 3, none⟩ = some (.int .i64 ((rd_T34 l0 x3_1).f3.f0)) ∧ w'.cell? ⟨(ad416.add ((x3_1).toNat * 7)).block, (ad416.add ((x3_1).toNat * 7)).off + 4, none⟩ = some (.int .i64 ((rd_T34 l0 x3_1).f3.f1)) ∧ w'.cell? ⟨(ad416.add ((x3_1).toNat * 7)).block, (ad416.add ((x3_1).toNat * 7)).off + 5, none⟩ = some (.int .i64 ((rd_T34 l0 x3_1).f3.f2)) ∧ w'.cell? ⟨(ad416.add ((x3_1).toNat * 7)).block, (ad416.add ((x3_1).toNat * 7)).off + 6, none⟩ = some (.int .i64 ((rd_T34 l0 x3_1).f3.f3)) ∧ w'.cell? (ad416.add ((x3_1).toNat * 7)) = some (.int .i64 ((rd_T34 l0 x3_1).f0)) ∧ w'.cell? ⟨(ad416.add ((x3_1).toNat * 7)).block, (ad416.add ((x3_1).toNat * 7)).off + 1, none⟩ = some (.int .i64 ((rd_T34 l0 x3_1).f1)) ∧ w'.cell? ⟨(ad416.add ((x3_1).toNat * 7)).block, (ad416.add ((x3_1).toNat * 7)).off + 2, none⟩ = some (.int .i64 ((rd_T34 l0 x3_1).f2)) ∧ w'.cell? ⟨(ad416.add ((x3_1).toNat * 7)).block, (ad416.add ((x3_1).toNat * 7)).off + 3, none⟩ = some (.int .i64 ((rd_T34 l0 x3_1).f3.f0)) ∧ w'.cell? ⟨(ad416.add ((x3_1).toNat * 7)).block, (ad416.add ((x3_1).toNat * 7)).off + 4, none⟩ = some (.int .i64 ((rd_T34 l0 x3_1).f3.f1)) ∧ w'.cell? ⟨(ad416.add ((x3_1).toNat * 7)).block, (ad416.add ((x3_1).toNat * 7)).off + 5, none⟩ = some (.int .i64 ((rd_T34 l0 x3_1).f3.f2)) ∧ w'.cell? ⟨(ad416.add ((x3_1).toNat * 7)).block, (ad416.add ((x3_1).toNat * 7)).off + 6, none⟩ = some (.int .i64 ((rd_T34 l0 x3_1).f3.f3))) (ds := []) #[false, false, false, false, false, false, false, false, false, false, false, false, false, false, false, false, false, false, false, false, false, false, false, false, false, false, false, false, false, false, false, false, false, false, false, false, false, false, false, false, false, false, false, false] (by kernel_rfl) rfl rfl ⟨((HB.out.cell (World.block_lt_of_cell? w _ hw416_0)).trans hw416_0), ((HB.out.cell (World.block_lt_of_cell? w _ hw416_1)).trans hw416_1), ((HB.out.cell (World.block_lt_of_cell? w _ hw416_2)).trans hw416_2), ((HB.out.cell (World.block_lt_of_cell? w _ hw416_3)).trans hw416_3), ((HB.out.cell (World.block_lt_of_cell? w _ hw416_4)).trans hw416_4), ((HB.out.cell (World.block_lt_of_cell? w _ hw416_5)).trans hw416_5), ((HB.out.cell (World.block_lt_of_cell? w _ hw416_6)).trans hw416_6), ((HB.out.cell (World.block_lt_of_cell? w _ hw417_0)).trans hw417_0), ((HB.out.cell (World.block_lt_of_cell? w _ hw417_1)).trans hw417_1), ((HB.out.cell (World.block_lt_of_cell? w _ hw417_2)).trans hw417_2), ((HB.out.cell (World.block_lt_of_cell? w _ hw417_3)).trans hw417_3), ((HB.out.cell (World.block_lt_of_cell? w _ hw417_4)).trans hw417_4), ((HB.out.cell (World.block_lt_of_cell? w _ hw417_5)).trans hw417_5), ((HB.out.cell (World.block_lt_of_cell? w _ hw417_6)).trans hw417_6), ((HB.out.cell (World.block_lt_of_cell? w _ hw418_0)).trans hw418_0), ((HB.out.cell (World.block_lt_of_cell? w _ hw418_1)).trans hw418_1), ((HB.out.cell (World.block_lt_of_cell? w _ hw418_2)).trans hw418_2), ((HB.out.cell (World.block_lt_of_cell? w _ hw418_3)).trans hw418_3), ((HB.out.cell (World.block_lt_of_cell? w _ hw418_4)).trans hw418_4), ((HB.out.cell (World.block_lt_of_cell? w _ hw418_5)).trans hw418_5), ((HB.out.cell (World.block_lt_of_cell? w _ hw418_6)).trans hw418_6), ((HB.out.cell (World.block_lt_of_cell? w _ hw420_0)).trans hw420_0), ((HB.out.cell (World.block_lt_of_cell? w _ hw420_1)).trans hw420_1), ((HB.out.cell (World.block_lt_of_cell? w _ hw420_2)).trans hw420_2), ((HB.out.cell (World.block_lt_of_cell? w _ hw420_3)).trans hw420_3), ((HB.out.cell (World.block_lt_of_cell? w _ hw420_4)).trans hw420_4), ((HB.out.cell (World.block_lt_of_cell? w _ hw420_5)).trans hw420_5), ((HB.out.cell (World.block_lt_of_cell? w _ hw420_6)).trans hw420_6)⟩ (fun hHeld => ?_); refine with_tabW mutoscoperef5_Right.tab4 mutoscoperef5_Right.bits4 (fun HT_ HW_ => ?_)
         generalize wr.drew = w15 at HB hx416_0 hx416_1 hx416_2 hx416_3 hx416_4 hx416_5 hx416_6 hx417_0 hx417_1 hx417_2 hx417_3 hx417_4 hx417_5 hx417_6 hx418_0 hx418_1 hx418_2 hx418_3 hx418_4 hx418_5 hx418_6 hx420_0 hx420_1 hx420_2 hx420_3 hx420_4 hx420_5 hx420_6 hHeld ⊢
         refine pure_ (i := 0) (N := some 10) (v := ?_) (a' := ?_) #[true, false, false, false, false, false, false, false, false, false, false, false, false, false, false, false, false, false, false, false, false, false, false, false, false, false, false, false, false, false, false, false, false, false, false, false, false, false, false, false, false, false, false, false] rfl rfl (any_of HT_.out (by kernel_rfl)) (fun _ _ _ h => h) (Or.inl ⟨by rfl, ?_⟩) ?_ ?_
         rotate_left
         ·intro w'
          go_simp
          with_reducible rfl
         rotate_left
         ·simp only [Act.put, List.setIfInBounds_toArray, List.set_cons_zero, List.set_cons_succ, i64_w, i32_w]
          rfl
         refine pure_ (i := 1) (N := some 11) (v := ?_) (a' := ?_) #[true, true, false, false, false, false, false, false, false, false, false, false, false, false, false, false, false, false, false, false, false, false, false, false, false, false, false, false, false, false, false, false, false, false, false, false, false, false, false, false, false, false, false, false] rfl rfl (any_of HT_.out (by kernel_rfl)) (fun _ _ _ h => h) (Or.inl ⟨by rfl, ?_⟩) ?_ ?_
         rotate_left
         ·intro w'
          go_simp
          with_reducible rfl
         rotate_left
         ·simp only [Act.put, List.setIfInBounds_toArray, List.set_cons_zero, List.set_cons_succ, i64_w, i32_w]
          rfl
         refine pure_ (i := 2) (N := some 12) (v := ?_) (a' := ?_) #[true, true, true, false, false, false, false, false, false, false, false, false, false, false, false, false, false, false, false, false, false, false, false, false, false, false, false, false, false, false, false, false, false, false, false, false, false, false, false, false, false, false, false, false] rfl rfl (any_of HT_.out (by kernel_rfl)) (fun _ _ _ h => h) (Or.inl ⟨by rfl, ?_⟩) ?_ ?_
         rotate_left
         ·intro w'
          go_simp
          with_reducible rfl
         rotate_left
         ·simp only [Act.put, List.setIfInBounds_toArray, List.set_cons_zero, List.set_cons_succ, i64_w, i32_w]
          rfl
         refine pure_ (i := 3) (N := some 13) (v := ?_) (a' := ?_) #[true, true, true, true, false, false, false, false, false, false, false, false, false, false, false, false, false, false, false, false, false, false, false, false, false, false, false, false, false, false, false, false, false, false, false, false, false, false, false, false, false, false, false, false] rfl rfl (any_of HT_.out (by kernel_rfl)) (fun _ _ _ h => h) (Or.inl ⟨by rfl, ?_⟩) ?_ ?_
         rotate_left
         ·intro w'
          go_simp
          with_reducible rfl
         rotate_left
         ·simp only [Act.put, List.setIfInBounds_toArray, List.set_cons_zero, List.set_cons_succ, i64_w, i32_w]
          rfl
         refine pure_ (i := 5) (N := some 15) (v := ?_) (a' := ?_) #[true, true, true, true, false, true, false, false, false, false, false, false, false, false, false, false, false, false, false, false, false, false, false, false, false, false, false, false, false, false, false, false, false, false, false, false, false, false, false, false, false, false, false, false] rfl rfl (any_of HT_.out (by kernel_rfl)) (fun _ _ _ h => h) (Or.inl ⟨by rfl, ?_⟩) ?_ ?_
         rotate_left
         ·intro w'
          go_simp
          with_reducible rfl
         rotate_left
         ·simp only [Act.put, List.setIfInBounds_toArray, List.set_cons_zero, List.set_cons_succ, i64_w, i32_w]
          rfl
         refine pure_ (i := 6) (N := some 16) (v := ?_) (a' := ?_) #[true, true, true, true, false, true, true, false, false, false, false, false, false, false, false, false, false, false, false, false, false, false, false, false, false, false, false, false, false, false, false, false, false, false, false, false, false, false, false, false, false, false, false, false] rfl rfl (any_of HT_.out (by kernel_rfl)) (fun _ _ _ h => h) (Or.inl ⟨by rfl, ?_⟩) ?_ ?_
         rotate_left
         ·intro w'
          go_simp
          with_reducible rfl
         rotate_left
         ·simp only [Act.put, List.setIfInBounds_toArray, List.set_cons_zero, List.set_cons_succ, i64_w, i32_w]
          rfl
         refine pure_ (i := 7) (N := some 17) (v := ?_) (a' := ?_) #[true, true, true, true, false, true, true, true, false, false, false, false, false, false, false, false, false, false, false, false, false, false, false, false, false, false, false, false, false, false, false, false, false, false, false, false, false, false, false, false, false, false, false, false] rfl rfl (any_of HT_.out (by kernel_rfl)) (fun _ _ _ h => h) (Or.inl ⟨by rfl, ?_⟩) ?_ ?_
         rotate_left
         ·intro w'
          go_simp
          with_reducible rfl
         rotate_left
         ·simp only [Act.put, List.setIfInBounds_toArray, List.set_cons_zero, List.set_cons_succ, i64_w, i32_w]
          rfl
         refine pure_ (i := 8) (N := some 18) (v := ?_) (a' := ?_) #[true, true, true, true, false, true, true, true, true, false, false, false, false, false, false, false, false, false, false, false, false, false, false, false, false, false, false, false, false, false, false, false, false, false, false, false, false, false, false, false, false, false, false, false] rfl rfl (any_of HT_.out (by kernel_rfl)) (fun _ _ _ h => h) (Or.inl ⟨by rfl, ?_⟩) ?_ ?_
         rotate_left
         ·intro w'
          go_simp
          with_reducible rfl
         rotate_left
         ·simp only [Act.put, List.setIfInBounds_toArray, List.set_cons_zero, List.set_cons_succ, i64_w, i32_w]
          rfl
         refine pure_ (i := 10) (N := some 20) (v := ?_) (a' := ?_) #[true, true, true, true, false, true, true, true, true, false, true, false, false, false, false, false, false, false, false, false, false, false, false, false, false, false, false, false, false, false, false, false, false, false, false, false, false, false, false, false, false, false, false, false] rfl rfl (any_of HT_.out (by kernel_rfl)) (fun _ _ _ h => h) (Or.inl ⟨by rfl, ?_⟩) ?_ ?_
         rotate_left
         ·intro w'
          go_simp
          with_reducible rfl
         rotate_left
         ·simp only [Act.put, List.setIfInBounds_toArray, List.set_cons_zero, List.set_cons_succ, i64_w, i32_w]
          rfl
         refine pure_ (i := 11) (N := some 21) (v := ?_) (a' := ?_) #[true, true, true, true, false, true, true, true, true, false, true, true, false, false, false, false, false, false, false, false, false, false, false, false, false, false, false, false, false, false, false, false, false, false, false, false, false, false, false, false, false, false, false, false] rfl rfl (any_of HT_.out (by kernel_rfl)) (fun _ _ _ h => h) (Or.inl ⟨by rfl, ?_⟩) ?_ ?_
         rotate_left
         ·intro w'
          go_simp
          with_reducible rfl
         rotate_left
         ·simp only [Act.put, List.setIfInBounds_toArray, List.set_cons_zero, List.set_cons_succ, i64_w, i32_w]
          rfl
         refine pure_ (i := 12) (N := some 22) (v := ?_) (a' := ?_) #[true, true, true, true, false, true, true, true, true, false, true, true, true, false, false, false, false, false, false, false, false, false, false, false, false, false, false, false, false, false, false, false, false, false, false, false, false, false, false, false, false, false, false, false] rfl rfl (any_of HT_.out (by kernel_rfl)) (fun _ _ _ h => h) (Or.inl ⟨by rfl, ?_⟩) ?_ ?_
         rotate_left
         ·intro w'
          go_simp
          with_reducible rfl
         rotate_left
         ·simp only [Act.put, List.setIfInBounds_toArray, List.set_cons_zero, List.set_cons_succ, i64_w, i32_w]
          rfl
         refine pure_ (i := 13) (N := some 23) (v := ?_) (a' := ?_) #[true, true, true, true, false, true, true, true, true, false, true, true, true, true, false, false, false, false, false, false, false, false, false, false, false, false, false, false, false, false, false, false, false, false, false, false, false, false, false, false, false, false, false, false] rfl rfl (any_of HT_.out (by kernel_rfl)) (fun _ _ _ h => h) (Or.inl ⟨by rfl, ?_⟩) ?_ ?_
         rotate_left
         ·intro w'
          go_simp
          with_reducible rfl
         rotate_left
         ·simp only [Act.put, List.setIfInBounds_toArray, List.set_cons_zero, List.set_cons_succ, i64_w, i32_w]
          rfl
         refine take_ (i := 4) (N := some 14) (v := ?_) (a' := ?_) #[true, true, true, true, true, true, true, true, true, false, true, true, true, true, false, false, false, false, false, false, false, false, false, false, false, false, false, false, false, false, false, false, false, false, false, false, false, false, false, false, false, false, false, false] rfl rfl (take_ofW HT_.out HW_.out (by kernel_rfl)) (fun _ _ _ h => h) (Or.inl ⟨by rfl, ?_⟩) hHeld ?_ ?_
         rotate_left
         ·rintro w' ⟨s0, s1, s2, s3, s4, s5, s6, s7, s8, s9, s10, s11, s12, s13, s14, s15, s16, s17, s18, s19, s20, s21, s22, s23, s24, s25, s26, s27⟩
          go_simp
          with_reducible rfl
         rotate_left
         ·simp only [Act.put, List.setIfInBounds_toArray, List.set_cons_zero, List.set_cons_succ, i64_w, i32_w]
          rfl
         refine take_ (i := 9) (N := some 19) (v := ?_) (a' := ?_) #[true, true, true, true, true, true, true, true, true, true, true, true, true, true, false, false, false, false, false, false, false, false, false, false, false, false, false, false, false, false, false, false, false, false, false, false, false, false, false, false, false, false, false, false] rfl rfl (take_ofW HT_.out HW_.out (by kernel_rfl)) (fun _ _ _ h => h) (Or.inl ⟨by rfl, ?_⟩) hHeld ?_ ?_
         rotate_left
         ·rintro w' ⟨s0, s1, s2, s3, s4, s5, s6, s7, s8, s9, s10, s11, s12, s13, s14, s15, s16, s17, s18, s19, s20, s21, s22, s23, s24, s25, s26, s27⟩
          go_simp
          with_reducible rfl
         rotate_left
         ·simp only [Act.put, List.setIfInBounds_toArray, List.set_cons_zero, List.set_cons_succ, i64_w, i32_w]
          rfl
         refine take_ (i := 14) (N := some 24) (v := ?_) (a' := ?_) #[true, true, true, true, true, true, true, true, true, true, true, true, true, true, true, false, false, false, false, false, false, false, false, false, false, false, false, false, false, false, false, false, false, false, false, false, false, false, false, false, false, false, false, false] rfl rfl (take_ofW HT_.out HW_.out (by kernel_rfl)) (fun _ _ _ h => h) (Or.inl ⟨by rfl, ?_⟩) hHeld ?_ ?_
         rotate_left
         ·rintro w' ⟨s0, s1, s2, s3, s4, s5, s6, s7, s8, s9, s10, s11, s12, s13, s14, s15, s16, s17, s18, s19, s20, s21, s22, s23, s24, s25, s26, s27⟩
          go_simp
          with_reducible rfl
         rotate_left
         ·simp only [Act.put, List.setIfInBounds_toArray, List.set_cons_zero, List.set_cons_succ, i64_w, i32_w]
          rfl
         refine one_ (i := 15) (N := some 25) #[true, true, true, true, true, true, true, true, true, true, true, true, true, true, true, true, false, false, false, false, false, false, false, false, false, false, false, false, false, false, false, false, false, false, false, false, false, false, false, false, false, false, false, false] rfl rfl (one_of HT_.out (by kernel_rfl)) (by decide) (fun K hK => ?_)
         refine goes_ Try.func53 (by kernel_rfl) rfl #[.int .i64 ((rd_T34 l0 x3_1).f0), .int .i64 ((rd_T34 l0 x3_1).f2), .agg #[.int .i64 ((rd_T34 l0 x3_1).f3.f0), .int .i64 ((rd_T34 l0 x3_1).f3.f1), .int .i64 ((rd_T34 l0 x3_1).f3.f2), .int .i64 ((rd_T34 l0 x3_1).f3.f3)]] (by rfl) rfl rfl (by (try simp only [List.map_toArray, List.map_cons, List.map_nil]); first | done | rfl | (simp only [List.length_drop, List.length_take]; rfl)) ?_
         with_reducible refine (mutoscoperef5_Moves.calls ((rd_T34 l0 x3_1).f0) ((rd_T34 l0 x3_1).f2) ((rd_T34 l0 x3_1).f3.f0) ((rd_T34 l0 x3_1).f3.f1) ((rd_T34 l0 x3_1).f3.f2) ((rd_T34 l0 x3_1).f3.f3) true _ A5.out).mono ?_
         rintro e w16 ⟨rfl, hb⟩
         refine ⟨_, rfl, ?_⟩
         have n0_ := Aside0.mk (below_step (by repeat (first | (with_reducible first | exact HB.out | apply below_alloc | apply pw_below_drewN | apply below_drew1) | exact HB.out)) hb)
         clear HB
         have HB := n0_
         clear n0_
         (try clear hb)
         (try clear hb2)
         (try clear hk)
         (try clear hi)
         refine hK.out _ _ ⟨((HB.out.cell (World.block_lt_of_cell? w _ hw416_0)).trans hw416_0), ((HB.out.cell (World.block_lt_of_cell? w _ hw416_1)).trans hw416_1), ((HB.out.cell (World.block_lt_of_cell? w _ hw416_2)).trans hw416_2), ((HB.out.cell (World.block_lt_of_cell? w _ hw416_3)).trans hw416_3), ((HB.out.cell (World.block_lt_of_cell? w _ hw416_4)).trans hw416_4), ((HB.out.cell (World.block_lt_of_cell? w _ hw416_5)).trans hw416_5), ((HB.out.cell (World.block_lt_of_cell? w _ hw416_6)).trans hw416_6), ((HB.out.cell (World.block_lt_of_cell? w _ hw417_0)).trans hw417_0), ((HB.out.cell (World.block_lt_of_cell? w _ hw417_1)).trans hw417_1), ((HB.out.cell (World.block_lt_of_cell? w _ hw417_2)).trans hw417_2), ((HB.out.cell (World.block_lt_of_cell? w _ hw417_3)).trans hw417_3), ((HB.out.cell (World.block_lt_of_cell? w _ hw417_4)).trans hw417_4), ((HB.out.cell (World.block_lt_of_cell? w _ hw417_5)).trans hw417_5), ((HB.out.cell (World.block_lt_of_cell? w _ hw417_6)).trans hw417_6), ((HB.out.cell (World.block_lt_of_cell? w _ hw418_0)).trans hw418_0), ((HB.out.cell (World.block_lt_of_cell? w _ hw418_1)).trans hw418_1), ((HB.out.cell (World.block_lt_of_cell? w _ hw418_2)).trans hw418_2), ((HB.out.cell (World.block_lt_of_cell? w _ hw418_3)).trans hw418_3), ((HB.out.cell (World.block_lt_of_cell? w _ hw418_4)).trans hw418_4), ((HB.out.cell (World.block_lt_of_cell? w _ hw418_5)).trans hw418_5), ((HB.out.cell (World.block_lt_of_cell? w _ hw418_6)).trans hw418_6), ((HB.out.cell (World.block_lt_of_cell? w _ hw420_0)).trans hw420_0), ((HB.out.cell (World.block_lt_of_cell? w _ hw420_1)).trans hw420_1), ((HB.out.cell (World.block_lt_of_cell? w _ hw420_2)).trans hw420_2), ((HB.out.cell (World.block_lt_of_cell? w _ hw420_3)).trans hw420_3), ((HB.out.cell (World.block_lt_of_cell? w _ hw420_4)).trans hw420_4), ((HB.out.cell (World.block_lt_of_cell? w _ hw420_5)).trans hw420_5), ((HB.out.cell (World.block_lt_of_cell? w _ hw420_6)).trans hw420_6)⟩ (fun hHeld => ?_)
         clear hK K
         refine norm_ (a' := ?_) ?_ ?_
         rotate_left
         ·show Act.put _ (some 25) _ = _
          simp only [Act.put, List.setIfInBounds_toArray, List.set_cons_zero, List.set_cons_succ, i64_w, i32_w]
          rfl
         refine pure_ (i := 16) (N := some 26) (v := ?_) (a' := ?_) #[true, true, true, true, true, true, true, true, true, true, true, true, true, true, true, true, true, false, false, false, false, false, false, false, false, false, false, false, false, false, false, false, false, false, false, false, false, false, false, false, false, false, false, false] rfl rfl (any_of HT_.out (by kernel_rfl)) (fun _ _ _ h => h) (Or.inl ⟨by rfl, ?_⟩) ?_ ?_
         rotate_left
         ·intro w'
          go_simp
          with_reducible rfl
         rotate_left
         ·simp only [Act.put, List.setIfInBounds_toArray, List.set_cons_zero, List.set_cons_succ, i64_w, i32_w]
          rfl
         refine pure_ (i := 17) (N := some 27) (v := ?_) (a' := ?_) #[true, true, true, true, true, true, true, true, true, true, true, true, true, true, true, true, true, true, false, false, false, false, false, false, false, false, false, false, false, false, false, false, false, false, false, false, false, false, false, false, false, false, false, false] rfl rfl (any_of HT_.out (by kernel_rfl)) (fun _ _ _ h => h) (Or.inl ⟨by rfl, ?_⟩) ?_ ?_
         rotate_left
         ·intro w'
          go_simp
          with_reducible rfl
         rotate_left
         ·simp only [Act.put, List.setIfInBounds_toArray, List.set_cons_zero, List.set_cons_succ, i64_w, i32_w]
          rfl
         refine pure_ (i := 18) (N := some 28) (v := ?_) (a' := ?_) #[true, true, true, true, true, true, true, true, true, true, true, true, true, true, true, true, true, true, true, false, false, false, false, false, false, false, false, false, false, false, false, false, false, false, false, false, false, false, false, false, false, false, false, false] rfl rfl (any_of HT_.out (by kernel_rfl)) (fun _ _ _ h => h) (Or.inl ⟨by rfl, ?_⟩) ?_ ?_
         rotate_left
         ·intro w'
          go_simp
          with_reducible rfl
         rotate_left
         ·simp only [Act.put, List.setIfInBounds_toArray, List.set_cons_zero, List.set_cons_succ, i64_w, i32_w]
          rfl
         refine pure_ (i := 19) (N := some 29) (v := ?_) (a' := ?_) #[true, true, true, true, true, true, true, true, true, true, true, true, true, true, true, true, true, true, true, true, false, false, false, false, false, false, false, false, false, false, false, false, false, false, false, false, false, false, false, false, false, false, false, false] rfl rfl (any_of HT_.out (by kernel_rfl)) (fun _ _ _ h => h) (Or.inl ⟨by rfl, ?_⟩) ?_ ?_
         rotate_left
         ·intro w'
          go_simp
          with_reducible rfl
         rotate_left
         ·simp only [Act.put, List.setIfInBounds_toArray, List.set_cons_zero, List.set_cons_succ, i64_w, i32_w]
          rfl
         refine pure_ (i := 20) (N := some 30) (v := ?_) (a' := ?_) #[true, true, true, true, true, true, true, true, true, true, true, true, true, true, true, true, true, true, true, true, true, false, false, false, false, false, false, false, false, false, false, false, false, false, false, false, false, false, false, false, false, false, false, false] rfl rfl (any_of HT_.out (by kernel_rfl)) (fun _ _ _ h => h) (Or.inl ⟨by rfl, ?_⟩) ?_ ?_
         rotate_left
         ·intro w'
          go_simp
          with_reducible rfl
         rotate_left
         ·simp only [Act.put, List.setIfInBounds_toArray, List.set_cons_zero, List.set_cons_succ, i64_w, i32_w]
          rfl
         refine pure_ (i := 21) (N := some 31) (v := ?_) (a' := ?_) #[true, true, true, true, true, true, true, true, true, true, true, true, true, true, true, true, true, true, true, true, true, true, false, false, false, false, false, false, false, false, false, false, false, false, false, false, false, false, false, false, false, false, false, false] rfl rfl (any_of HT_.out (by kernel_rfl)) (fun _ _ _ h => h) (Or.inl ⟨by rfl, ?_⟩) ?_ ?_
         rotate_left
         ·intro w'
          go_simp
          with_reducible rfl
         rotate_left
         ·simp only [Act.put, List.setIfInBounds_toArray, List.set_cons_zero, List.set_cons_succ, i64_w, i32_w]
          rfl
         refine take_ (i := 22) (N := some 32) (v := ?_) (a' := ?_) #[true, true, true, true, true, true, true, true, true, true, true, true, true, true, true, true, true, true, true, true, true, true, true, false, false, false, false, false, false, false, false, false, false, false, false, false, false, false, false, false, false, false, false, false] rfl rfl (take_ofW HT_.out HW_.out (by kernel_rfl)) (fun _ _ _ h => h) (Or.inl ⟨by rfl, ?_⟩) hHeld ?_ ?_
         rotate_left
         ·rintro w' ⟨s0, s1, s2, s3, s4, s5, s6, s7, s8, s9, s10, s11, s12, s13, s14, s15, s16, s17, s18, s19, s20, s21, s22, s23, s24, s25, s26, s27⟩
          go_simp
          with_reducible rfl
         rotate_left
         ·simp only [Act.put, List.setIfInBounds_toArray, List.set_cons_zero, List.set_cons_succ, i64_w, i32_w]
          rfl
         refine one_ (i := 23) (N := some 33) #[true, true, true, true, true, true, true, true, true, true, true, true, true, true, true, true, true, true, true, true, true, true, true, true, false, false, false, false, false, false, false, false, false, false, false, false, false, false, false, false, false, false, false, false] rfl rfl (one_of HT_.out (by kernel_rfl)) (by decide) (fun K hK => ?_)
         refine goes_ Try.func49 (by kernel_rfl) rfl #[.int .i64 ((rd_T34 l0 x3_1).f1), .int .i64 (-67108864), .int .i64 67108864] (by rfl) rfl rfl (by (try simp only [List.map_toArray, List.map_cons, List.map_nil]); first | done | rfl | (simp only [List.length_drop, List.length_take]; rfl)) ?_
         with_reducible refine (mutoscoperef5_within.calls ((rd_T34 l0 x3_1).f1) (-67108864) 67108864 true _ A7.out).mono ?_
         rintro e w' ⟨rfl, ⟨nd, rfl⟩⟩
         refine ⟨_, rfl, ?_⟩
         refine hK.out _ _ ⟨((HB.out.cell (World.block_lt_of_cell? w _ hw416_0)).trans hw416_0), ((HB.out.cell (World.block_lt_of_cell? w _ hw416_1)).trans hw416_1), ((HB.out.cell (World.block_lt_of_cell? w _ hw416_2)).trans hw416_2), ((HB.out.cell (World.block_lt_of_cell? w _ hw416_3)).trans hw416_3), ((HB.out.cell (World.block_lt_of_cell? w _ hw416_4)).trans hw416_4), ((HB.out.cell (World.block_lt_of_cell? w _ hw416_5)).trans hw416_5), ((HB.out.cell (World.block_lt_of_cell? w _ hw416_6)).trans hw416_6), ((HB.out.cell (World.block_lt_of_cell? w _ hw417_0)).trans hw417_0), ((HB.out.cell (World.block_lt_of_cell? w _ hw417_1)).trans hw417_1), ((HB.out.cell (World.block_lt_of_cell? w _ hw417_2)).trans hw417_2), ((HB.out.cell (World.block_lt_of_cell? w _ hw417_3)).trans hw417_3), ((HB.out.cell (World.block_lt_of_cell? w _ hw417_4)).trans hw417_4), ((HB.out.cell (World.block_lt_of_cell? w _ hw417_5)).trans hw417_5), ((HB.out.cell (World.block_lt_of_cell? w _ hw417_6)).trans hw417_6), ((HB.out.cell (World.block_lt_of_cell? w _ hw418_0)).trans hw418_0), ((HB.out.cell (World.block_lt_of_cell? w _ hw418_1)).trans hw418_1), ((HB.out.cell (World.block_lt_of_cell? w _ hw418_2)).trans hw418_2), ((HB.out.cell (World.block_lt_of_cell? w _ hw418_3)).trans hw418_3), ((HB.out.cell (World.block_lt_of_cell? w _ hw418_4)).trans hw418_4), ((HB.out.cell (World.block_lt_of_cell? w _ hw418_5)).trans hw418_5), ((HB.out.cell (World.block_lt_of_cell? w _ hw418_6)).trans hw418_6), ((HB.out.cell (World.block_lt_of_cell? w _ hw420_0)).trans hw420_0), ((HB.out.cell (World.block_lt_of_cell? w _ hw420_1)).trans hw420_1), ((HB.out.cell (World.block_lt_of_cell? w _ hw420_2)).trans hw420_2), ((HB.out.cell (World.block_lt_of_cell? w _ hw420_3)).trans hw420_3), ((HB.out.cell (World.block_lt_of_cell? w _ hw420_4)).trans hw420_4), ((HB.out.cell (World.block_lt_of_cell? w _ hw420_5)).trans hw420_5), ((HB.out.cell (World.block_lt_of_cell? w _ hw420_6)).trans hw420_6)⟩ (fun hHeld => ?_)
         clear hK K
         refine norm_ (a' := ?_) ?_ ?_
         rotate_left
         ·show Act.put _ (some 33) _ = _
          simp only [Act.put, List.setIfInBounds_toArray, List.set_cons_zero, List.set_cons_succ, i64_w, i32_w]
          rfl
         refine pure_ (i := 24) (N := some 34) (v := ?_) (a' := ?_) #[true, true, true, true, true, true, true, true, true, true, true, true, true, true, true, true, true, true, true, true, true, true, true, true, true, false, false, false, false, false, false, false, false, false, false, false, false, false, false, false, false, false, false, false] rfl rfl (any_of HT_.out (by kernel_rfl)) (fun _ _ _ h => h) (Or.inl ⟨by rfl, ?_⟩) ?_ ?_
         rotate_left
         ·intro w'
          go_simp
          with_reducible rfl
         rotate_left
         ·simp only [Act.put, List.setIfInBounds_toArray, List.set_cons_zero, List.set_cons_succ, i64_w, i32_w]
          rfl
         refine pure_ (i := 25) (N := some 35) (v := ?_) (a' := ?_) #[true, true, true, true, true, true, true, true, true, true, true, true, true, true, true, true, true, true, true, true, true, true, true, true, true, true, false, false, false, false, false, false, false, false, false, false, false, false, false, false, false, false, false, false] rfl rfl (any_of HT_.out (by kernel_rfl)) (fun _ _ _ h => h) (Or.inl ⟨by rfl, ?_⟩) ?_ ?_
         rotate_left
         ·intro w'
          go_simp
          with_reducible rfl
         rotate_left
         ·simp only [Act.put, List.setIfInBounds_toArray, List.set_cons_zero, List.set_cons_succ, i64_w, i32_w]
          rfl
         refine pure_ (i := 26) (N := some 36) (v := ?_) (a' := ?_) #[true, true, true, true, true, true, true, true, true, true, true, true, true, true, true, true, true, true, true, true, true, true, true, true, true, true, true, false, false, false, false, false, false, false, false, false, false, false, false, false, false, false, false, false] rfl rfl (any_of HT_.out (by kernel_rfl)) (fun _ _ _ h => h) (Or.inl ⟨by rfl, ?_⟩) ?_ ?_
         rotate_left
         ·intro w'
          go_simp
          with_reducible rfl
         rotate_left
         ·simp only [Act.put, List.setIfInBounds_toArray, List.set_cons_zero, List.set_cons_succ, i64_w, i32_w]
          rfl
         refine pure_ (i := 27) (N := some 37) (v := ?_) (a' := ?_) #[true, true, true, true, true, true, true, true, true, true, true, true, true, true, true, true, true, true, true, true, true, true, true, true, true, true, true, true, false, false, false, false, false, false, false, false, false, false, false, false, false, false, false, false] rfl rfl (any_of HT_.out (by kernel_rfl)) (fun _ _ _ h => h) (Or.inl ⟨by rfl, ?_⟩) ?_ ?_
         rotate_left
         ·intro w'
          go_simp
          with_reducible rfl
         rotate_left
         ·simp only [Act.put, List.setIfInBounds_toArray, List.set_cons_zero, List.set_cons_succ, i64_w, i32_w]
          rfl
         refine pure_ (i := 28) (N := some 38) (v := ?_) (a' := ?_) #[true, true, true, true, true, true, true, true, true, true, true, true, true, true, true, true, true, true, true, true, true, true, true, true, true, true, true, true, true, false, false, false, false, false, false, false, false, false, false, false, false, false, false, false] rfl rfl (any_of HT_.out (by kernel_rfl)) (fun _ _ _ h => h) (Or.inl ⟨by rfl, ?_⟩) ?_ ?_
         rotate_left
         ·intro w'
          go_simp
          with_reducible rfl
         rotate_left
         ·simp only [Act.put, List.setIfInBounds_toArray, List.set_cons_zero, List.set_cons_succ, i64_w, i32_w]
          rfl
         refine pure_ (i := 29) (N := some 39) (v := ?_) (a' := ?_) #[true, true, true, true, true, true, true, true, true, true, true, true, true, true, true, true, true, true, true, true, true, true, true, true, true, true, true, true, true, true, false, false, false, false, false, false, false, false, false, false, false, false, false, false] rfl rfl (any_of HT_.out (by kernel_rfl)) (fun _ _ _ h => h) (Or.inl ⟨by rfl, ?_⟩) ?_ ?_
         rotate_left
         ·intro w'
          go_simp
          with_reducible rfl
         rotate_left
         ·simp only [Act.put, List.setIfInBounds_toArray, List.set_cons_zero, List.set_cons_succ, i64_w, i32_w]
          rfl
         refine pure_ (i := 30) (N := some 40) (v := undef) (a' := ?_) #[true, true, true, true, true, true, true, true, true, true, true, true, true, true, true, true, true, true, true, true, true, true, true, true, true, true, true, true, true, true, true, false, false, false, false, false, false, false, false, false, false, false, false, false] rfl rfl (any_of HT_.out (by kernel_rfl)) (fun _ _ _ h => h) (Or.inr ⟨by rfl, rfl⟩) ?_ ?_
         rotate_left
         ·simp only [Act.put, List.setIfInBounds_toArray, List.set_cons_zero, List.set_cons_succ, i64_w, i32_w]
          rfl
         refine pure_ (i := 31) (N := some 41) (v := undef) (a' := ?_) #[true, true, true, true, true, true, true, true, true, true, true, true, true, true, true, true, true, true, true, true, true, true, true, true, true, true, true, true, true, true, true, true, false, false, false, false, false, false, false, false, false, false, false, false] rfl rfl (any_of HT_.out (by kernel_rfl)) (fun _ _ _ h => h) (Or.inr ⟨by rfl, rfl⟩) ?_ ?_
         rotate_left
         ·simp only [Act.put, List.setIfInBounds_toArray, List.set_cons_zero, List.set_cons_succ, i64_w, i32_w]
          rfl
         refine pure_ (i := 32) (N := some 42) (v := undef) (a' := ?_) #[true, true, true, true, true, true, true, true, true, true, true, true, true, true, true, true, true, true, true, true, true, true, true, true, true, true, true, true, true, true, true, true, true, false, false, false, false, false, false, false, false, false, false, false] rfl rfl (any_of HT_.out (by kernel_rfl)) (fun _ _ _ h => h) (Or.inr ⟨by rfl, rfl⟩) ?_ ?_
         rotate_left
         ·simp only [Act.put, List.setIfInBounds_toArray, List.set_cons_zero, List.set_cons_succ, i64_w, i32_w]
          rfl
         refine pure_ (i := 33) (N := some 43) (v := undef) (a' := ?_) #[true, true, true, true, true, true, true, true, true, true, true, true, true, true, true, true, true, true, true, true, true, true, true, true, true, true, true, true, true, true, true, true, true, true, false, false, false, false, false, false, false, false, false, false] rfl rfl (any_of HT_.out (by kernel_rfl)) (fun _ _ _ h => h) (Or.inr ⟨by rfl, rfl⟩) ?_ ?_
         rotate_left
         ·simp only [Act.put, List.setIfInBounds_toArray, List.set_cons_zero, List.set_cons_succ, i64_w, i32_w]
          rfl
         refine pure_ (i := 34) (N := some 44) (v := undef) (a' := ?_) #[true, true, true, true, true, true, true, true, true, true, true, true, true, true, true, true, true, true, true, true, true, true, true, true, true, true, true, true, true, true, true, true, true, true, true, false, false, false, false, false, false, false, false, false] rfl rfl (any_of HT_.out (by kernel_rfl)) (fun _ _ _ h => h) (Or.inr ⟨by rfl, rfl⟩) ?_ ?_
         rotate_left
         ·simp only [Act.put, List.setIfInBounds_toArray, List.set_cons_zero, List.set_cons_succ, i64_w, i32_w]
          rfl
         refine pure_ (i := 35) (N := some 45) (v := undef) (a' := ?_) #[true, true, true, true, true, true, true, true, true, true, true, true, true, true, true, true, true, true, true, true, true, true, true, true, true, true, true, true, true, true, true, true, true, true, true, true, false, false, false, false, false, false, false, false] rfl rfl (any_of HT_.out (by kernel_rfl)) (fun _ _ _ h => h) (Or.inr ⟨by rfl, rfl⟩) ?_ ?_
         rotate_left
         ·simp only [Act.put, List.setIfInBounds_toArray, List.set_cons_zero, List.set_cons_succ, i64_w, i32_w]
          rfl
         refine pure_ (i := 36) (N := some 46) (v := undef) (a' := ?_) #[true, true, true, true, true, true, true, true, true, true, true, true, true, true, true, true, true, true, true, true, true, true, true, true, true, true, true, true, true, true, true, true, true, true, true, true, true, false, false, false, false, false, false, false] rfl rfl (any_of HT_.out (by kernel_rfl)) (fun _ _ _ h => h) (Or.inr ⟨by rfl, rfl⟩) ?_ ?_
         rotate_left
         ·simp only [Act.put, List.setIfInBounds_toArray, List.set_cons_zero, List.set_cons_succ, i64_w, i32_w]
          rfl
         refine pure_ (i := 37) (N := some 47) (v := undef) (a' := ?_) #[true, true, true, true, true, true, true, true, true, true, true, true, true, true, true, true, true, true, true, true, true, true, true, true, true, true, true, true, true, true, true, true, true, true, true, true, true, true, false, false, false, false, false, false] rfl rfl (any_of HT_.out (by kernel_rfl)) (fun _ _ _ h => h) (Or.inr ⟨by rfl, rfl⟩) ?_ ?_
         rotate_left
         ·simp only [Act.put, List.setIfInBounds_toArray, List.set_cons_zero, List.set_cons_succ, i64_w, i32_w]
          rfl
         refine pure_ (i := 38) (N := some 48) (v := undef) (a' := ?_) #[true, true, true, true, true, true, true, true, true, true, true, true, true, true, true, true, true, true, true, true, true, true, true, true, true, true, true, true, true, true, true, true, true, true, true, true, true, true, true, false, false, false, false, false] rfl rfl (any_of HT_.out (by kernel_rfl)) (fun _ _ _ h => h) (Or.inr ⟨by rfl, rfl⟩) ?_ ?_
         rotate_left
         ·simp only [Act.put, List.setIfInBounds_toArray, List.set_cons_zero, List.set_cons_succ, i64_w, i32_w]
          rfl
         refine pure_ (i := 39) (N := some 49) (v := undef) (a' := ?_) #[true, true, true, true, true, true, true, true, true, true, true, true, true, true, true, true, true, true, true, true, true, true, true, true, true, true, true, true, true, true, true, true, true, true, true, true, true, true, true, true, false, false, false, false] rfl rfl (any_of HT_.out (by kernel_rfl)) (fun _ _ _ h => h) (Or.inr ⟨by rfl, rfl⟩) ?_ ?_
         rotate_left
         ·simp only [Act.put, List.setIfInBounds_toArray, List.set_cons_zero, List.set_cons_succ, i64_w, i32_w]
          rfl
         refine pure_ (i := 40) (N := some 50) (v := undef) (a' := ?_) #[true, true, true, true, true, true, true, true, true, true, true, true, true, true, true, true, true, true, true, true, true, true, true, true, true, true, true, true, true, true, true, true, true, true, true, true, true, true, true, true, true, false, false, false] rfl rfl (any_of HT_.out (by kernel_rfl)) (fun _ _ _ h => h) (Or.inr ⟨by rfl, rfl⟩) ?_ ?_
         rotate_left
         ·simp only [Act.put, List.setIfInBounds_toArray, List.set_cons_zero, List.set_cons_succ, i64_w, i32_w]
          rfl
         refine pure_ (i := 41) (N := some 51) (v := undef) (a' := ?_) #[true, true, true, true, true, true, true, true, true, true, true, true, true, true, true, true, true, true, true, true, true, true, true, true, true, true, true, true, true, true, true, true, true, true, true, true, true, true, true, true, true, true, false, false] rfl rfl (any_of HT_.out (by kernel_rfl)) (fun _ _ _ h => h) (Or.inr ⟨by rfl, rfl⟩) ?_ ?_
         rotate_left
         ·simp only [Act.put, List.setIfInBounds_toArray, List.set_cons_zero, List.set_cons_succ, i64_w, i32_w]
          rfl
         refine pure_ (i := 42) (N := some 52) (v := ?_) (a' := ?_) #[true, true, true, true, true, true, true, true, true, true, true, true, true, true, true, true, true, true, true, true, true, true, true, true, true, true, true, true, true, true, true, true, true, true, true, true, true, true, true, true, true, true, true, false] rfl rfl (any_of HT_.out (by kernel_rfl)) (fun _ _ _ h => h) (Or.inl ⟨by rfl, ?_⟩) ?_ ?_
         rotate_left
         ·intro w'
          go_simp
          with_reducible rfl
         rotate_left
         ·simp only [Act.put, List.setIfInBounds_toArray, List.set_cons_zero, List.set_cons_succ, i64_w, i32_w]
          rfl
         refine pure_ (i := 43) (N := some 53) (v := ?_) (a' := ?_) #[true, true, true, true, true, true, true, true, true, true, true, true, true, true, true, true, true, true, true, true, true, true, true, true, true, true, true, true, true, true, true, true, true, true, true, true, true, true, true, true, true, true, true, true] rfl rfl (any_of HT_.out (by kernel_rfl)) (fun _ _ _ h => h) (Or.inl ⟨by rfl, ?_⟩) ?_ ?_
         rotate_left
         ·intro w'
          go_simp
          with_reducible rfl
         rotate_left
         ·simp only [Act.put, List.setIfInBounds_toArray, List.set_cons_zero, List.set_cons_succ, i64_w, i32_w]
          rfl
         refine done_ (done_of HT_.out (by kernel_rfl)) ?_
         try go_wp2
         go_meet
         case rel => exact ⟨_, (false), (by first | rfl | (simp; done) | (simp [*]; done)), H', ⟨by have := HK1.out; first | omega | exact Nat.le_refl _⟩, ⟨by repeat (first | (with_reducible first | exact HB.out | apply below_alloc | apply pw_below_drewN | apply below_drew1) | exact HB.out)⟩⟩
       ·replace c8 := Bool.eq_false_iff.mpr c8
        subst c8
        have H1 : (mutoscoperef5_Right.j1 k1 l0 x3_1 true) = some r := by rw [if_neg (show ¬ (false = true) by decide)] at H; exact H
        clear H
        have H := H1
        clear H1
        have H' := Aside0.mk H
        clear H
        try go_wp2
        have n0_ := Aside0.mk (below_drew1 HB.out)
        clear HB
        have HB := n0_
        clear n0_
        have p416 : 0 ≤ (x3_1 : Int) := of_decide_eq_true (by first | (with_reducible assumption) | assumption)
        have q416 : x3_1 < (l0.length : Int) := of_decide_eq_true (by first | (with_reducible assumption) | assumption)
        obtain ⟨ad416, e416, hx416_0, hx416_1, hx416_2, hx416_3, hx416_4, hx416_5, hx416_6⟩ := at_T34 HR0.out x3_1 p416 q416
        have hw416_6 := hx416_6
        have hw416_5 := hx416_5
        have hw416_4 := hx416_4
        have hw416_3 := hx416_3
        have hw416_2 := hx416_2
        have hw416_1 := hx416_1
        have hw416_0 := hx416_0
        cases e416
        replace hx416_0 := (HB.out.cell (World.block_lt_of_cell? w _ hx416_0)).trans hx416_0
        replace hx416_1 := (HB.out.cell (World.block_lt_of_cell? w _ hx416_1)).trans hx416_1
        replace hx416_2 := (HB.out.cell (World.block_lt_of_cell? w _ hx416_2)).trans hx416_2
        replace hx416_3 := (HB.out.cell (World.block_lt_of_cell? w _ hx416_3)).trans hx416_3
        replace hx416_4 := (HB.out.cell (World.block_lt_of_cell? w _ hx416_4)).trans hx416_4
        replace hx416_5 := (HB.out.cell (World.block_lt_of_cell? w _ hx416_5)).trans hx416_5
        replace hx416_6 := (HB.out.cell (World.block_lt_of_cell? w _ hx416_6)).trans hx416_6
        replace p416 := eq_true p416
        replace q416 := eq_true q416
        have p417 : 0 ≤ (x3_1 : Int) := of_decide_eq_true (by first | (with_reducible assumption) | assumption)
        have q417 : x3_1 < (l0.length : Int) := of_decide_eq_true (by first | (with_reducible assumption) | assumption)
        obtain ⟨ad417, e417, hx417_0, hx417_1, hx417_2, hx417_3, hx417_4, hx417_5, hx417_6⟩ := at_T34 HR0.out x3_1 p417 q417
        have hw417_6 := hx417_6
        have hw417_5 := hx417_5
        have hw417_4 := hx417_4
        have hw417_3 := hx417_3
        have hw417_2 := hx417_2
        have hw417_1 := hx417_1
        have hw417_0 := hx417_0
        obtain rfl : ad416 = ad417 := (by injection e417)
        replace hx417_0 := (HB.out.cell (World.block_lt_of_cell? w _ hx417_0)).trans hx417_0
        replace hx417_1 := (HB.out.cell (World.block_lt_of_cell? w _ hx417_1)).trans hx417_1
        replace hx417_2 := (HB.out.cell (World.block_lt_of_cell? w _ hx417_2)).trans hx417_2
        replace hx417_3 := (HB.out.cell (World.block_lt_of_cell? w _ hx417_3)).trans hx417_3
        replace hx417_4 := (HB.out.cell (World.block_lt_of_cell? w _ hx417_4)).trans hx417_4
        replace hx417_5 := (HB.out.cell (World.block_lt_of_cell? w _ hx417_5)).trans hx417_5
        replace hx417_6 := (HB.out.cell (World.block_lt_of_cell? w _ hx417_6)).trans hx417_6
        replace p417 := eq_true p417
        replace q417 := eq_true q417
        have p418 : 0 ≤ (x3_1 : Int) := of_decide_eq_true (by first | (with_reducible assumption) | assumption)
        have q418 : x3_1 < (l0.length : Int) := of_decide_eq_true (by first | (with_reducible assumption) | assumption)
        obtain ⟨ad418, e418, hx418_0, hx418_1, hx418_2, hx418_3, hx418_4, hx418_5, hx418_6⟩ := at_T34 HR0.out x3_1 p418 q418
        have hw418_6 := hx418_6
        have hw418_5 := hx418_5
        have hw418_4 := hx418_4
        have hw418_3 := hx418_3
        have hw418_2 := hx418_2
        have hw418_1 := hx418_1
        have hw418_0 := hx418_0
        obtain rfl : ad416 = ad418 := (by injection e418)
        replace hx418_0 := (HB.out.cell (World.block_lt_of_cell? w _ hx418_0)).trans hx418_0
        replace hx418_1 := (HB.out.cell (World.block_lt_of_cell? w _ hx418_1)).trans hx418_1
        replace hx418_2 := (HB.out.cell (World.block_lt_of_cell? w _ hx418_2)).trans hx418_2
        replace hx418_3 := (HB.out.cell (World.block_lt_of_cell? w _ hx418_3)).trans hx418_3
        replace hx418_4 := (HB.out.cell (World.block_lt_of_cell? w _ hx418_4)).trans hx418_4
        replace hx418_5 := (HB.out.cell (World.block_lt_of_cell? w _ hx418_5)).trans hx418_5
        replace hx418_6 := (HB.out.cell (World.block_lt_of_cell? w _ hx418_6)).trans hx418_6
        replace p418 := eq_true p418
        replace q418 := eq_true q418
        have p420 : 0 ≤ (x3_1 : Int) := of_decide_eq_true (by first | (with_reducible assumption) | assumption)
        have q420 : x3_1 < (l0.length : Int) := of_decide_eq_true (by first | (with_reducible assumption) | assumption)
        obtain ⟨ad420, e420, hx420_0, hx420_1, hx420_2, hx420_3, hx420_4, hx420_5, hx420_6⟩ := at_T34 HR0.out x3_1 p420 q420
        have hw420_6 := hx420_6
        have hw420_5 := hx420_5
        have hw420_4 := hx420_4
        have hw420_3 := hx420_3
        have hw420_2 := hx420_2
        have hw420_1 := hx420_1
        have hw420_0 := hx420_0
        obtain rfl : ad416 = ad420 := (by injection e420)
        replace hx420_0 := (HB.out.cell (World.block_lt_of_cell? w _ hx420_0)).trans hx420_0
        replace hx420_1 := (HB.out.cell (World.block_lt_of_cell? w _ hx420_1)).trans hx420_1
        replace hx420_2 := (HB.out.cell (World.block_lt_of_cell? w _ hx420_2)).trans hx420_2
        replace hx420_3 := (HB.out.cell (World.block_lt_of_cell? w _ hx420_3)).trans hx420_3
        replace hx420_4 := (HB.out.cell (World.block_lt_of_cell? w _ hx420_4)).trans hx420_4
        replace hx420_5 := (HB.out.cell (World.block_lt_of_cell? w _ hx420_5)).trans hx420_5
        replace hx420_6 := (HB.out.cell (World.block_lt_of_cell? w _ hx420_6)).trans hx420_6
        replace p420 := eq_true p420
        replace q420 := eq_true q420
        refine start_ (n := 44) (S := fun w' => w'.cell? (ad416.add ((x3_1).toNat * 7)) = some (.int .i64 ((rd_T34 l0 x3_1).f0)) ∧ w'.cell? ⟨(ad416.add ((x3_1).toNat * 7)).block, (ad416.add ((x3_1).toNat * 7)).off + 1, none⟩ = some (.int .i64 ((rd_T34 l0 x3_1).f1)) ∧ w'.cell? ⟨(ad416.add ((x3_1).toNat * 7)).block, (ad416.add ((x3_1).toNat * 7)).off + 2, none⟩ = some (.int .i64 ((rd_T34 l0 x3_1).f2)) ∧ w'.cell? ⟨(ad416.add ((x3_1).toNat * 7)).block, (ad416.add ((x3_1).toNat * 7)).off + 3, none⟩ = some (.int .i64 ((rd_T34 l0 x3_1).f3.f0)) ∧ w'.cell? ⟨(ad416.add ((x3_1).toNat * 7)).block, (ad416.add ((x3_1).toNat * 7)).off + 4, none⟩ = some (.int .i64 ((rd_T34 l0 x3_1).f3.f1)) ∧ w'.cell? ⟨(ad416.add ((x3_1).toNat * 7)).block, (ad416.add ((x3_1).toNat * 7)).off + 5, none⟩ = some (.int .i64 ((rd_T34 l0 x3_1).f3.f2)) ∧ w'.cell? ⟨(ad416.add ((x3_1).toNat * 7)).block, (ad416.add ((x3_1).toNat * 7)).off + 6, none⟩ = some (.int .i64 ((rd_T34 l0 x3_1).f3.f3)) ∧ w'.cell? (ad416.add ((x3_1).toNat * 7)) = some (.int .i64 ((rd_T34 l0 x3_1).f0)) ∧ w'.cell? ⟨(ad416.add ((x3_1).toNat * 7)).block, (ad416.add ((x3_1).toNat * 7)).off + 1, none⟩ = some (.int .i64 ((rd_T34 l0 x3_1).f1)) ∧ w'.cell? ⟨(ad416.add ((x3_1).toNat * 7)).block, (ad416.add ((x3_1).toNat * 7)).off + 2, none⟩ = some (.int .i64 ((rd_T34 l0 x3_1).f2)) ∧ w'.cell? ⟨(ad416.add ((x3_1).toNat * 7)).block, (ad416.add ((x3_1).toNat * 7)).off + 3, none⟩ = some (.int .i64 ((rd_T34 l0 x3_1).f3.f0)) ∧ w'.cell? ⟨(ad416.add ((x3_1).toNat * 7)).block, (ad416.add ((x3_1).toNat * 7)).off + 4, none⟩ = some (.int .i64 ((rd_T34 l0 x3_1).f3.f1)) ∧ w'.cell? ⟨(ad416.add ((x3_1).toNat * 7)).block, (ad416.add ((x3_1).toNat * 7)).off + 5, none⟩ = some (.int .i64 ((rd_T34 l0 x3_1).f3.f2)) ∧ w'.cell? ⟨(ad416.add ((x3_1).toNat * 7)).block, (ad416.add ((x3_1).toNat * 7)).off + 6, none⟩ = some (.int .i64 ((rd_T34 l0 x3_1).f3.f3)) ∧ w'.cell? (ad416.add ((x3_1).toNat * 7)) = some (.int .i64 ((rd_T34 l0 x3_1).f0)) ∧ w'.cell? ⟨(ad416.add ((x3_1).toNat * 7)).block, (ad416.add ((x3_1).toNat * 7)).off + 1, none⟩ = some (.int .i64 ((rd_T34 l0 x3_1).f1)) ∧ w'.cell? ⟨(ad416.add ((x3_1).toNat * 7)).block, (ad416.add ((x3_1).toNat * 7)).off + 2, none⟩ = some (.int .i64 ((rd_T34 l0 x3_1).f2)) ∧ w'.cell? ⟨(ad416.add ((x3_1).toNat * 7)).block, (ad416.add ((x3_1).toNat * 7)).off + 3, none⟩ = some (.int .i64 ((rd_T34 l0 x3_1).f3.f0)) ∧ w'.cell? ⟨(ad416.add ((x3_1).toNat * 7)).block, (ad416.add ((x3_1).toNat * 7)).off + 4, none⟩ = some (.int .i64 ((rd_T34 l0 x3_1).f3.f1)) ∧ w'.cell? ⟨(ad416.add ((x3_1).toNat * 7)).block, (ad416.add ((x3_1).toNat * 7)).off + 5, none⟩ = some (.int .i64 ((rd_T34 l0 x3_1).f3.f2)) ∧ w'.cell? ⟨(ad416.add ((x3_1).toNat * 7)).block, (ad416.add ((x3_1).toNat * 7)).off + 6, none⟩ = some (.int .i64 ((rd_T34 l0 x3_1).f3.f3)) ∧ w'.cell? (ad416.add ((x3_1).toNat * 7)) = some (.int .i64 ((rd_T34 l0 x3_1).f0)) ∧ w'.cell? ⟨(ad416.add ((x3_1).toNat * 7)).block, (ad416.add ((x3_1).toNat * 7)).off + 1, none⟩ = some (.int .i64 ((rd_T34 l0 x3_1).f1)) ∧ w'.cell? ⟨(ad416.add ((x3_1).toNat * 7)).block, (ad416.add ((x3_1).toNat * 7)).off + 2, none⟩ = some (.int .i64 ((rd_T34 l0 x3_1).f2)) ∧ w'.cell? ⟨(ad416.add ((x3_1).toNat * 7)).block, (ad416.add ((x3_1).toNat * 7)).off + 3, none⟩ = some (.int .i64 ((rd_T34 l0 x3_1).f3.f0)) ∧ w'.cell? ⟨(ad416.add ((x3_1).toNat * 7)).block, (ad416.add ((x3_1).toNat * 7)).off + 4, none⟩ = some (.int .i64 ((rd_T34 l0 x3_1).f3.f1)) ∧ w'.cell? ⟨(ad416.add ((x3_1).toNat * 7)).block, (ad416.add ((x3_1).toNat * 7)).off + 5, none⟩ = some (.int .i64 ((rd_T34 l0 x3_1).f3.f2)) ∧ w'.cell? ⟨(ad416.add ((x3_1).toNat * 7)).block, (ad416.add ((x3_1).toNat * 7)).off + 6, none⟩ = some (.int .i64 ((rd_T34 l0 x3_1).f3.f3))) (ds := []) #[false, false, false, false, false, false, false, false, false, false, false, false, false, false, false, false, false, false, false, false, false, false, false, false, false, false, false, false, false, false, false, false, false, false, false, false, false, false, false, false, false, false, false, false] (by kernel_rfl) rfl rfl ⟨((HB.out.cell (World.block_lt_of_cell? w _ hw416_0)).trans hw416_0), ((HB.out.cell (World.block_lt_of_cell? w _ hw416_1)).trans hw416_1), ((HB.out.cell (World.block_lt_of_cell? w _ hw416_2)).trans hw416_2), ((HB.out.cell (World.block_lt_of_cell? w _ hw416_3)).trans hw416_3), ((HB.out.cell (World.block_lt_of_cell? w _ hw416_4)).trans hw416_4), ((HB.out.cell (World.block_lt_of_cell? w _ hw416_5)).trans hw416_5), ((HB.out.cell (World.block_lt_of_cell? w _ hw416_6)).trans hw416_6), ((HB.out.cell (World.block_lt_of_cell? w _ hw417_0)).trans hw417_0), ((HB.out.cell (World.block_lt_of_cell? w _ hw417_1)).trans hw417_1), ((HB.out.cell (World.block_lt_of_cell? w _ hw417_2)).trans hw417_2), ((HB.out.cell (World.block_lt_of_cell? w _ hw417_3)).trans hw417_3), ((HB.out.cell (World.block_lt_of_cell? w _ hw417_4)).trans hw417_4), ((HB.out.cell (World.block_lt_of_cell? w _ hw417_5)).trans hw417_5), ((HB.out.cell (World.block_lt_of_cell? w _ hw417_6)).trans hw417_6), ((HB.out.cell (World.block_lt_of_cell? w _ hw418_0)).trans hw418_0), ((HB.out.cell (World.block_lt_of_cell? w _ hw418_1)).trans hw418_1), ((HB.out.cell (World.block_lt_of_cell? w _ hw418_2)).trans hw418_2), ((HB.out.cell (World.block_lt_of_cell? w _ hw418_3)).trans hw418_3), ((HB.out.cell (World.block_lt_of_cell? w _ hw418_4)).trans hw418_4), ((HB.out.cell (World.block_lt_of_cell? w _ hw418_5)).trans hw418_5), ((HB.out.cell (World.block_lt_of_cell? w _ hw418_6)).trans hw418_6), ((HB.out.cell (World.block_lt_of_cell? w _ hw420_0)).trans hw420_0), ((HB.out.cell (World.block_lt_of_cell? w _ hw420_1)).trans hw420_1), ((HB.out.cell (World.block_lt_of_cell? w _ hw420_2)).trans hw420_2), ((HB.out.cell (World.block_lt_of_cell? w _ hw420_3)).trans hw420_3), ((HB.out.cell (World.block_lt_of_cell? w _ hw420_4)).trans hw420_4), ((HB.out.cell (World.block_lt_of_cell? w _ hw420_5)).trans hw420_5), ((HB.out.cell (World.block_lt_of_cell? w _ hw420_6)).trans hw420_6)⟩ (fun hHeld => ?_); refine with_tabW mutoscoperef5_Right.tab4 mutoscoperef5_Right.bits4 (fun HT_ HW_ => ?_)
        generalize wr.drew = w17 at HB hx416_0 hx416_1 hx416_2 hx416_3 hx416_4 hx416_5 hx416_6 hx417_0 hx417_1 hx417_2 hx417_3 hx417_4 hx417_5 hx417_6 hx418_0 hx418_1 hx418_2 hx418_3 hx418_4 hx418_5 hx418_6 hx420_0 hx420_1 hx420_2 hx420_3 hx420_4 hx420_5 hx420_6 hHeld ⊢
        refine pure_ (i := 0) (N := some 10) (v := ?_) (a' := ?_) #[true, false, false, false, false, false, false, false, false, false, false, false, false, false, false, false, false, false, false, false, false, false, false, false, false, false, false, false, false, false, false, false, false, false, false, false, false, false, false, false, false, false, false, false] rfl rfl (any_of HT_.out (by kernel_rfl)) (fun _ _ _ h => h) (Or.inl ⟨by rfl, ?_⟩) ?_ ?_
        rotate_left
        ·intro w'
         go_simp
         with_reducible rfl
        rotate_left
        ·simp only [Act.put, List.setIfInBounds_toArray, List.set_cons_zero, List.set_cons_succ, i64_w, i32_w]
         rfl
        refine pure_ (i := 1) (N := some 11) (v := ?_) (a' := ?_) #[true, true, false, false, false, false, false, false, false, false, false, false, false, false, false, false, false, false, false, false, false, false, false, false, false, false, false, false, false, false, false, false, false, false, false, false, false, false, false, false, false, false, false, false] rfl rfl (any_of HT_.out (by kernel_rfl)) (fun _ _ _ h => h) (Or.inl ⟨by rfl, ?_⟩) ?_ ?_
        rotate_left
        ·intro w'
         go_simp
         with_reducible rfl
        rotate_left
        ·simp only [Act.put, List.setIfInBounds_toArray, List.set_cons_zero, List.set_cons_succ, i64_w, i32_w]
         rfl
        refine pure_ (i := 2) (N := some 12) (v := ?_) (a' := ?_) #[true, true, true, false, false, false, false, false, false, false, false, false, false, false, false, false, false, false, false, false, false, false, false, false, false, false, false, false, false, false, false, false, false, false, false, false, false, false, false, false, false, false, false, false] rfl rfl (any_of HT_.out (by kernel_rfl)) (fun _ _ _ h => h) (Or.inl ⟨by rfl, ?_⟩) ?_ ?_
        rotate_left
        ·intro w'
         go_simp
         with_reducible rfl
        rotate_left
        ·simp only [Act.put, List.setIfInBounds_toArray, List.set_cons_zero, List.set_cons_succ, i64_w, i32_w]
         rfl
        refine pure_ (i := 3) (N := some 13) (v := ?_) (a' := ?_) #[true, true, true, true, false, false, false, false, false, false, false, false, false, false, false, false, false, false, false, false, false, false, false, false, false, false, false, false, false, false, false, false, false, false, false, false, false, false, false, false, false, false, false, false] rfl rfl (any_of HT_.out (by kernel_rfl)) (fun _ _ _ h => h) (Or.inl ⟨by rfl, ?_⟩) ?_ ?_
        rotate_left
        ·intro w'
         go_simp
         with_reducible rfl
        rotate_left
        ·simp only [Act.put, List.setIfInBounds_toArray, List.set_cons_zero, List.set_cons_succ, i64_w, i32_w]
         rfl
        refine pure_ (i := 5) (N := some 15) (v := ?_) (a' := ?_) #[true, true, true, true, false, true, false, false, false, false, false, false, false, false, false, false, false, false, false, false, false, false, false, false, false, false, false, false, false, false, false, false, false, false, false, false, false, false, false, false, false, false, false, false] rfl rfl (any_of HT_.out (by kernel_rfl)) (fun _ _ _ h => h) (Or.inl ⟨by rfl, ?_⟩) ?_ ?_
        rotate_left
        ·intro w'
         go_simp
         with_reducible rfl
        rotate_left
        ·simp only [Act.put, List.setIfInBounds_toArray, List.set_cons_zero, List.set_cons_succ, i64_w, i32_w]
         rfl
        refine pure_ (i := 6) (N := some 16) (v := ?_) (a' := ?_) #[true, true, true, true, false, true, true, false, false, false, false, false, false, false, false, false, false, false, false, false, false, false, false, false, false, false, false, false, false, false, false, false, false, false, false, false, false, false, false, false, false, false, false, false] rfl rfl (any_of HT_.out (by kernel_rfl)) (fun _ _ _ h => h) (Or.inl ⟨by rfl, ?_⟩) ?_ ?_
        rotate_left
        ·intro w'
         go_simp
         with_reducible rfl
        rotate_left
        ·simp only [Act.put, List.setIfInBounds_toArray, List.set_cons_zero, List.set_cons_succ, i64_w, i32_w]
         rfl
        refine pure_ (i := 7) (N := some 17) (v := ?_) (a' := ?_) #[true, true, true, true, false, true, true, true, false, false, false, false, false, false, false, false, false, false, false, false, false, false, false, false, false, false, false, false, false, false, false, false, false, false, false, false, false, false, false, false, false, false, false, false] rfl rfl (any_of HT_.out (by kernel_rfl)) (fun _ _ _ h => h) (Or.inl ⟨by rfl, ?_⟩) ?_ ?_
        rotate_left
        ·intro w'
         go_simp
         with_reducible rfl
        rotate_left
        ·simp only [Act.put, List.setIfInBounds_toArray, List.set_cons_zero, List.set_cons_succ, i64_w, i32_w]
         rfl
        refine pure_ (i := 8) (N := some 18) (v := ?_) (a' := ?_) #[true, true, true, true, false, true, true, true, true, false, false, false, false, false, false, false, false, false, false, false, false, false, false, false, false, false, false, false, false, false, false, false, false, false, false, false, false, false, false, false, false, false, false, false] rfl rfl (any_of HT_.out (by kernel_rfl)) (fun _ _ _ h => h) (Or.inl ⟨by rfl, ?_⟩) ?_ ?_
        rotate_left
        ·intro w'
         go_simp
         with_reducible rfl
        rotate_left
        ·simp only [Act.put, List.setIfInBounds_toArray, List.set_cons_zero, List.set_cons_succ, i64_w, i32_w]
         rfl
        refine pure_ (i := 10) (N := some 20) (v := ?_) (a' := ?_) #[true, true, true, true, false, true, true, true, true, false, true, false, false, false, false, false, false, false, false, false, false, false, false, false, false, false, false, false, false, false, false, false, false, false, false, false, false, false, false, false, false, false, false, false] rfl rfl (any_of HT_.out (by kernel_rfl)) (fun _ _ _ h => h) (Or.inl ⟨by rfl, ?_⟩) ?_ ?_
        rotate_left
        ·intro w'
         go_simp
         with_reducible rfl
        rotate_left
        ·simp only [Act.put, List.setIfInBounds_toArray, List.set_cons_zero, List.set_cons_succ, i64_w, i32_w]
         rfl
        refine pure_ (i := 11) (N := some 21) (v := ?_) (a' := ?_) #[true, true, true, true, false, true, true, true, true, false, true, true, false, false, false, false, false, false, false, false, false, false, false, false, false, false, false, false, false, false, false, false, false, false, false, false, false, false, false, false, false, false, false, false] rfl rfl (any_of HT_.out (by kernel_rfl)) (fun _ _ _ h => h) (Or.inl ⟨by rfl, ?_⟩) ?_ ?_
        rotate_left
        ·intro w'
         go_simp
         with_reducible rfl
        rotate_left
        ·simp only [Act.put, List.setIfInBounds_toArray, List.set_cons_zero, List.set_cons_succ, i64_w, i32_w]
         rfl
        refine pure_ (i := 12) (N := some 22) (v := ?_) (a' := ?_) #[true, true, true, true, false, true, true, true, true, false, true, true, true, false, false, false, false, false, false, false, false, false, false, false, false, false, false, false, false, false, false, false, false, false, false, false, false, false, false, false, false, false, false, false] rfl rfl (any_of HT_.out (by kernel_rfl)) (fun _ _ _ h => h) (Or.inl ⟨by rfl, ?_⟩) ?_ ?_
        rotate_left
        ·intro w'
         go_simp
         with_reducible rfl
        rotate_left
        ·simp only [Act.put, List.setIfInBounds_toArray, List.set_cons_zero, List.set_cons_succ, i64_w, i32_w]
         rfl
        refine pure_ (i := 13) (N := some 23) (v := ?_) (a' := ?_) #[true, true, true, true, false, true, true, true, true, false, true, true, true, true, false, false, false, false, false, false, false, false, false, false, false, false, false, false, false, false, false, false, false, false, false, false, false, false, false, false, false, false, false, false] rfl rfl (any_of HT_.out (by kernel_rfl)) (fun _ _ _ h => h) (Or.inl ⟨by rfl, ?_⟩) ?_ ?_
        rotate_left
        ·intro w'
         go_simp
         with_reducible rfl
        rotate_left
        ·simp only [Act.put, List.setIfInBounds_toArray, List.set_cons_zero, List.set_cons_succ, i64_w, i32_w]
         rfl
        refine take_ (i := 4) (N := some 14) (v := ?_) (a' := ?_) #[true, true, true, true, true, true, true, true, true, false, true, true, true, true, false, false, false, false, false, false, false, false, false, false, false, false, false, false, false, false, false, false, false, false, false, false, false, false, false, false, false, false, false, false] rfl rfl (take_ofW HT_.out HW_.out (by kernel_rfl)) (fun _ _ _ h => h) (Or.inl ⟨by rfl, ?_⟩) hHeld ?_ ?_
        rotate_left
        ·rintro w' ⟨s0, s1, s2, s3, s4, s5, s6, s7, s8, s9, s10, s11, s12, s13, s14, s15, s16, s17, s18, s19, s20, s21, s22, s23, s24, s25, s26, s27⟩
         go_simp
         with_reducible rfl
        rotate_left
        ·simp only [Act.put, List.setIfInBounds_toArray, List.set_cons_zero, List.set_cons_succ, i64_w, i32_w]
         rfl
        refine take_ (i := 9) (N := some 19) (v := ?_) (a' := ?_) #[true, true, true, true, true, true, true, true, true, true, true, true, true, true, false, false, false, false, false, false, false, false, false, false, false, false, false, false, false, false, false, false, false, false, false, false, false, false, false, false, false, false, false, false] rfl rfl (take_ofW HT_.out HW_.out (by kernel_rfl)) (fun _ _ _ h => h) (Or.inl ⟨by rfl, ?_⟩) hHeld ?_ ?_
        rotate_left
        ·rintro w' ⟨s0, s1, s2, s3, s4, s5, s6, s7, s8, s9, s10, s11, s12, s13, s14, s15, s16, s17, s18, s19, s20, s21, s22, s23, s24, s25, s26, s27⟩
         go_simp
         with_reducible rfl
        rotate_left
        ·simp only [Act.put, List.setIfInBounds_toArray, List.set_cons_zero, List.set_cons_succ, i64_w, i32_w]
         rfl
        refine take_ (i := 14) (N := some 24) (v := ?_) (a' := ?_) #[true, true, true, true, true, true, true, true, true, true, true, true, true, true, true, false, false, false, false, false, false, false, false, false, false, false, false, false, false, false, false, false, false, false, false, false, false, false, false, false, false, false, false, false] rfl rfl (take_ofW HT_.out HW_.out (by kernel_rfl)) (fun _ _ _ h => h) (Or.inl ⟨by rfl, ?_⟩) hHeld ?_ ?_
        rotate_left
        ·rintro w' ⟨s0, s1, s2, s3, s4, s5, s6, s7, s8, s9, s10, s11, s12, s13, s14, s15, s16, s17, s18, s19, s20, s21, s22, s23, s24, s25, s26, s27⟩
         go_simp
         with_reducible rfl
        rotate_left
        ·simp only [Act.put, List.setIfInBounds_toArray, List.set_cons_zero, List.set_cons_succ, i64_w, i32_w]
         rfl
        refine one_ (i := 15) (N := some 25) #[true, true, true, true, true, true, true, true, true, true, true, true, true, true, true, true, false, false, false, false, false, false, false, false, false, false, false, false, false, false, false, false, false, false, false, false, false, false, false, false, false, false, false, false] rfl rfl (one_of HT_.out (by kernel_rfl)) (by decide) (fun K hK => ?_)
        refine goes_ Try.func53 (by kernel_rfl) rfl #[.int .i64 ((rd_T34 l0 x3_1).f0), .int .i64 ((rd_T34 l0 x3_1).f2), .agg #[.int .i64 ((rd_T34 l0 x3_1).f3.f0), .int .i64 ((rd_T34 l0 x3_1).f3.f1), .int .i64 ((rd_T34 l0 x3_1).f3.f2), .int .i64 ((rd_T34 l0 x3_1).f3.f3)]] (by rfl) rfl rfl (by (try simp only [List.map_toArray, List.map_cons, List.map_nil]); first | done | rfl | (simp only [List.length_drop, List.length_take]; rfl)) ?_
        with_reducible refine (mutoscoperef5_Moves.calls ((rd_T34 l0 x3_1).f0) ((rd_T34 l0 x3_1).f2) ((rd_T34 l0 x3_1).f3.f0) ((rd_T34 l0 x3_1).f3.f1) ((rd_T34 l0 x3_1).f3.f2) ((rd_T34 l0 x3_1).f3.f3) true _ A5.out).mono ?_
        rintro e w18 ⟨rfl, hb⟩
        refine ⟨_, rfl, ?_⟩
        have n0_ := Aside0.mk (below_step (by repeat (first | (with_reducible first | exact HB.out | apply below_alloc | apply pw_below_drewN | apply below_drew1) | exact HB.out)) hb)
        clear HB
        have HB := n0_
        clear n0_
        (try clear hb)
        (try clear hb2)
        (try clear hk)
        (try clear hi)
        refine hK.out _ _ ⟨((HB.out.cell (World.block_lt_of_cell? w _ hw416_0)).trans hw416_0), ((HB.out.cell (World.block_lt_of_cell? w _ hw416_1)).trans hw416_1), ((HB.out.cell (World.block_lt_of_cell? w _ hw416_2)).trans hw416_2), ((HB.out.cell (World.block_lt_of_cell? w _ hw416_3)).trans hw416_3), ((HB.out.cell (World.block_lt_of_cell? w _ hw416_4)).trans hw416_4), ((HB.out.cell (World.block_lt_of_cell? w _ hw416_5)).trans hw416_5), ((HB.out.cell (World.block_lt_of_cell? w _ hw416_6)).trans hw416_6), ((HB.out.cell (World.block_lt_of_cell? w _ hw417_0)).trans hw417_0), ((HB.out.cell (World.block_lt_of_cell? w _ hw417_1)).trans hw417_1), ((HB.out.cell (World.block_lt_of_cell? w _ hw417_2)).trans hw417_2), ((HB.out.cell (World.block_lt_of_cell? w _ hw417_3)).trans hw417_3), ((HB.out.cell (World.block_lt_of_cell? w _ hw417_4)).trans hw417_4), ((HB.out.cell (World.block_lt_of_cell? w _ hw417_5)).trans hw417_5), ((HB.out.cell (World.block_lt_of_cell? w _ hw417_6)).trans hw417_6), ((HB.out.cell (World.block_lt_of_cell? w _ hw418_0)).trans hw418_0), ((HB.out.cell (World.block_lt_of_cell? w _ hw418_1)).trans hw418_1), ((HB.out.cell (World.block_lt_of_cell? w _ hw418_2)).trans hw418_2), ((HB.out.cell (World.block_lt_of_cell? w _ hw418_3)).trans hw418_3), ((HB.out.cell (World.block_lt_of_cell? w _ hw418_4)).trans hw418_4), ((HB.out.cell (World.block_lt_of_cell? w _ hw418_5)).trans hw418_5), ((HB.out.cell (World.block_lt_of_cell? w _ hw418_6)).trans hw418_6), ((HB.out.cell (World.block_lt_of_cell? w _ hw420_0)).trans hw420_0), ((HB.out.cell (World.block_lt_of_cell? w _ hw420_1)).trans hw420_1), ((HB.out.cell (World.block_lt_of_cell? w _ hw420_2)).trans hw420_2), ((HB.out.cell (World.block_lt_of_cell? w _ hw420_3)).trans hw420_3), ((HB.out.cell (World.block_lt_of_cell? w _ hw420_4)).trans hw420_4), ((HB.out.cell (World.block_lt_of_cell? w _ hw420_5)).trans hw420_5), ((HB.out.cell (World.block_lt_of_cell? w _ hw420_6)).trans hw420_6)⟩ (fun hHeld => ?_)
        clear hK K
        refine norm_ (a' := ?_) ?_ ?_
        rotate_left
        ·show Act.put _ (some 25) _ = _
         simp only [Act.put, List.setIfInBounds_toArray, List.set_cons_zero, List.set_cons_succ, i64_w, i32_w]
         rfl
        refine pure_ (i := 16) (N := some 26) (v := ?_) (a' := ?_) #[true, true, true, true, true, true, true, true, true, true, true, true, true, true, true, true, true, false, false, false, false, false, false, false, false, false, false, false, false, false, false, false, false, false, false, false, false, false, false, false, false, false, false, false] rfl rfl (any_of HT_.out (by kernel_rfl)) (fun _ _ _ h => h) (Or.inl ⟨by rfl, ?_⟩) ?_ ?_
        rotate_left
        ·intro w'
         go_simp
         with_reducible rfl
        rotate_left
        ·simp only [Act.put, List.setIfInBounds_toArray, List.set_cons_zero, List.set_cons_succ, i64_w, i32_w]
         rfl
        refine pure_ (i := 17) (N := some 27) (v := ?_) (a' := ?_) #[true, true, true, true, true, true, true, true, true, true, true, true, true, true, true, true, true, true, false, false, false, false, false, false, false, false, false, false, false, false, false, false, false, false, false, false, false, false, false, false, false, false, false, false] rfl rfl (any_of HT_.out (by kernel_rfl)) (fun _ _ _ h => h) (Or.inl ⟨by rfl, ?_⟩) ?_ ?_
        rotate_left
        ·intro w'
         go_simp
         with_reducible rfl
        rotate_left
        ·simp only [Act.put, List.setIfInBounds_toArray, List.set_cons_zero, List.set_cons_succ, i64_w, i32_w]
         rfl
        refine pure_ (i := 18) (N := some 28) (v := ?_) (a' := ?_) #[true, true, true, true, true, true, true, true, true, true, true, true, true, true, true, true, true, true, true, false, false, false, false, false, false, false, false, false, false, false, false, false, false, false, false, false, false, false, false, false, false, false, false, false] rfl rfl (any_of HT_.out (by kernel_rfl)) (fun _ _ _ h => h) (Or.inl ⟨by rfl, ?_⟩) ?_ ?_
        rotate_left
        ·intro w'
         go_simp
         with_reducible rfl
        rotate_left
        ·simp only [Act.put, List.setIfInBounds_toArray, List.set_cons_zero, List.set_cons_succ, i64_w, i32_w]
         rfl
        refine pure_ (i := 19) (N := some 29) (v := ?_) (a' := ?_) #[true, true, true, true, true, true, true, true, true, true, true, true, true, true, true, true, true, true, true, true, false, false, false, false, false, false, false, false, false, false, false, false, false, false, false, false, false, false, false, false, false, false, false, false] rfl rfl (any_of HT_.out (by kernel_rfl)) (fun _ _ _ h => h) (Or.inl ⟨by rfl, ?_⟩) ?_ ?_
        rotate_left
        ·intro w'
         go_simp
         with_reducible rfl
        rotate_left
        ·simp only [Act.put, List.setIfInBounds_toArray, List.set_cons_zero, List.set_cons_succ, i64_w, i32_w]
         rfl
        refine pure_ (i := 20) (N := some 30) (v := ?_) (a' := ?_) #[true, true, true, true, true, true, true, true, true, true, true, true, true, true, true, true, true, true, true, true, true, false, false, false, false, false, false, false, false, false, false, false, false, false, false, false, false, false, false, false, false, false, false, false] rfl rfl (any_of HT_.out (by kernel_rfl)) (fun _ _ _ h => h) (Or.inl ⟨by rfl, ?_⟩) ?_ ?_
        rotate_left
        ·intro w'
         go_simp
         with_reducible rfl
        rotate_left
        ·simp only [Act.put, List.setIfInBounds_toArray, List.set_cons_zero, List.set_cons_succ, i64_w, i32_w]
         rfl
        refine pure_ (i := 21) (N := some 31) (v := ?_) (a' := ?_) #[true, true, true, true, true, true, true, true, true, true, true, true, true, true, true, true, true, true, true, true, true, true, false, false, false, false, false, false, false, false, false, false, false, false, false, false, false, false, false, false, false, false, false, false] rfl rfl (any_of HT_.out (by kernel_rfl)) (fun _ _ _ h => h) (Or.inl ⟨by rfl, ?_⟩) ?_ ?_
        rotate_left
        ·intro w'
         go_simp
         with_reducible rfl
        rotate_left
        ·simp only [Act.put, List.setIfInBounds_toArray, List.set_cons_zero, List.set_cons_succ, i64_w, i32_w]
         rfl
        refine take_ (i := 22) (N := some 32) (v := ?_) (a' := ?_) #[true, true, true, true, true, true, true, true, true, true, true, true, true, true, true, true, true, true, true, true, true, true, true, false, false, false, false, false, false, false, false, false, false, false, false, false, false, false, false, false, false, false, false, false] rfl rfl (take_ofW HT_.out HW_.out (by kernel_rfl)) (fun _ _ _ h => h) (Or.inl ⟨by rfl, ?_⟩) hHeld ?_ ?_
        rotate_left
        ·rintro w' ⟨s0, s1, s2, s3, s4, s5, s6, s7, s8, s9, s10, s11, s12, s13, s14, s15, s16, s17, s18, s19, s20, s21, s22, s23, s24, s25, s26, s27⟩
         go_simp
         with_reducible rfl
        rotate_left
        ·simp only [Act.put, List.setIfInBounds_toArray, List.set_cons_zero, List.set_cons_succ, i64_w, i32_w]
         rfl
        refine one_ (i := 23) (N := some 33) #[true, true, true, true, true, true, true, true, true, true, true, true, true, true, true, true, true, true, true, true, true, true, true, true, false, false, false, false, false, false, false, false, false, false, false, false, false, false, false, false, false, false, false, false] rfl rfl (one_of HT_.out (by kernel_rfl)) (by decide) (fun K hK => ?_)
        refine goes_ Try.func49 (by kernel_rfl) rfl #[.int .i64 ((rd_T34 l0 x3_1).f1), .int .i64 (-67108864), .int .i64 67108864] (by rfl) rfl rfl (by (try simp only [List.map_toArray, List.map_cons, List.map_nil]); first | done | rfl | (simp only [List.length_drop, List.length_take]; rfl)) ?_
        with_reducible refine (mutoscoperef5_within.calls ((rd_T34 l0 x3_1).f1) (-67108864) 67108864 false _ A7.out).mono ?_
        rintro e w' ⟨rfl, ⟨nd, rfl⟩⟩
        refine ⟨_, rfl, ?_⟩
        refine hK.out _ _ ⟨((HB.out.cell (World.block_lt_of_cell? w _ hw416_0)).trans hw416_0), ((HB.out.cell (World.block_lt_of_cell? w _ hw416_1)).trans hw416_1), ((HB.out.cell (World.block_lt_of_cell? w _ hw416_2)).trans hw416_2), ((HB.out.cell (World.block_lt_of_cell? w _ hw416_3)).trans hw416_3), ((HB.out.cell (World.block_lt_of_cell? w _ hw416_4)).trans hw416_4), ((HB.out.cell (World.block_lt_of_cell? w _ hw416_5)).trans hw416_5), ((HB.out.cell (World.block_lt_of_cell? w _ hw416_6)).trans hw416_6), ((HB.out.cell (World.block_lt_of_cell? w _ hw417_0)).trans hw417_0), ((HB.out.cell (World.block_lt_of_cell? w _ hw417_1)).trans hw417_1), ((HB.out.cell (World.block_lt_of_cell? w _ hw417_2)).trans hw417_2), ((HB.out.cell (World.block_lt_of_cell? w _ hw417_3)).trans hw417_3), ((HB.out.cell (World.block_lt_of_cell? w _ hw417_4)).trans hw417_4), ((HB.out.cell (World.block_lt_of_cell? w _ hw417_5)).trans hw417_5), ((HB.out.cell (World.block_lt_of_cell? w _ hw417_6)).trans hw417_6), ((HB.out.cell (World.block_lt_of_cell? w _ hw418_0)).trans hw418_0), ((HB.out.cell (World.block_lt_of_cell? w _ hw418_1)).trans hw418_1), ((HB.out.cell (World.block_lt_of_cell? w _ hw418_2)).trans hw418_2), ((HB.out.cell (World.block_lt_of_cell? w _ hw418_3)).trans hw418_3), ((HB.out.cell (World.block_lt_of_cell? w _ hw418_4)).trans hw418_4), ((HB.out.cell (World.block_lt_of_cell? w _ hw418_5)).trans hw418_5), ((HB.out.cell (World.block_lt_of_cell? w _ hw418_6)).trans hw418_6), ((HB.out.cell (World.block_lt_of_cell? w _ hw420_0)).trans hw420_0), ((HB.out.cell (World.block_lt_of_cell? w _ hw420_1)).trans hw420_1), ((HB.out.cell (World.block_lt_of_cell? w _ hw420_2)).trans hw420_2), ((HB.out.cell (World.block_lt_of_cell? w _ hw420_3)).trans hw420_3), ((HB.out.cell (World.block_lt_of_cell? w _ hw420_4)).trans hw420_4), ((HB.out.cell (World.block_lt_of_cell? w _ hw420_5)).trans hw420_5), ((HB.out.cell (World.block_lt_of_cell? w _ hw420_6)).trans hw420_6)⟩ (fun hHeld => ?_)
        clear hK K
        refine norm_ (a' := ?_) ?_ ?_
        rotate_left
        ·show Act.put _ (some 33) _ = _
         simp only [Act.put, List.setIfInBounds_toArray, List.set_cons_zero, List.set_cons_succ, i64_w, i32_w]
         rfl
        refine pure_ (i := 24) (N := some 34) (v := ?_) (a' := ?_) #[true, true, true, true, true, true, true, true, true, true, true, true, true, true, true, true, true, true, true, true, true, true, true, true, true, false, false, false, false, false, false, false, false, false, false, false, false, false, false, false, false, false, false, false] rfl rfl (any_of HT_.out (by kernel_rfl)) (fun _ _ _ h => h) (Or.inl ⟨by rfl, ?_⟩) ?_ ?_
        rotate_left
        ·intro w'
         go_simp
         with_reducible rfl
        rotate_left
        ·simp only [Act.put, List.setIfInBounds_toArray, List.set_cons_zero, List.set_cons_succ, i64_w, i32_w]
         rfl
        refine pure_ (i := 25) (N := some 35) (v := ?_) (a' := ?_) #[true, true, true, true, true, true, true, true, true, true, true, true, true, true, true, true, true, true, true, true, true, true, true, true, true, true, false, false, false, false, false, false, false, false, false, false, false, false, false, false, false, false, false, false] rfl rfl (any_of HT_.out (by kernel_rfl)) (fun _ _ _ h => h) (Or.inl ⟨by rfl, ?_⟩) ?_ ?_
        rotate_left
        ·intro w'
         go_simp
         with_reducible rfl
        rotate_left
        ·simp only [Act.put, List.setIfInBounds_toArray, List.set_cons_zero, List.set_cons_succ, i64_w, i32_w]
         rfl
        refine pure_ (i := 26) (N := some 36) (v := ?_) (a' := ?_) #[true, true, true, true, true, true, true, true, true, true, true, true, true, true, true, true, true, true, true, true, true, true, true, true, true, true, true, false, false, false, false, false, false, false, false, false, false, false, false, false, false, false, false, false] rfl rfl (any_of HT_.out (by kernel_rfl)) (fun _ _ _ h => h) (Or.inl ⟨by rfl, ?_⟩) ?_ ?_
        rotate_left
        ·intro w'
         go_simp
         with_reducible rfl
        rotate_left
        ·simp only [Act.put, List.setIfInBounds_toArray, List.set_cons_zero, List.set_cons_succ, i64_w, i32_w]
         rfl
        refine pure_ (i := 27) (N := some 37) (v := undef) (a' := ?_) #[true, true, true, true, true, true, true, true, true, true, true, true, true, true, true, true, true, true, true, true, true, true, true, true, true, true, true, true, false, false, false, false, false, false, false, false, false, false, false, false, false, false, false, false] rfl rfl (any_of HT_.out (by kernel_rfl)) (fun _ _ _ h => h) (Or.inr ⟨by rfl, rfl⟩) ?_ ?_
        rotate_left
        ·simp only [Act.put, List.setIfInBounds_toArray, List.set_cons_zero, List.set_cons_succ, i64_w, i32_w]
         rfl
        refine pure_ (i := 28) (N := some 38) (v := undef) (a' := ?_) #[true, true, true, true, true, true, true, true, true, true, true, true, true, true, true, true, true, true, true, true, true, true, true, true, true, true, true, true, true, false, false, false, false, false, false, false, false, false, false, false, false, false, false, false] rfl rfl (any_of HT_.out (by kernel_rfl)) (fun _ _ _ h => h) (Or.inr ⟨by rfl, rfl⟩) ?_ ?_
        rotate_left
        ·simp only [Act.put, List.setIfInBounds_toArray, List.set_cons_zero, List.set_cons_succ, i64_w, i32_w]
         rfl
        refine pure_ (i := 29) (N := some 39) (v := undef) (a' := ?_) #[true, true, true, true, true, true, true, true, true, true, true, true, true, true, true, true, true, true, true, true, true, true, true, true, true, true, true, true, true, true, false, false, false, false, false, false, false, false, false, false, false, false, false, false] rfl rfl (any_of HT_.out (by kernel_rfl)) (fun _ _ _ h => h) (Or.inr ⟨by rfl, rfl⟩) ?_ ?_
        rotate_left
        ·simp only [Act.put, List.setIfInBounds_toArray, List.set_cons_zero, List.set_cons_succ, i64_w, i32_w]
         rfl
        refine pure_ (i := 30) (N := some 40) (v := undef) (a' := ?_) #[true, true, true, true, true, true, true, true, true, true, true, true, true, true, true, true, true, true, true, true, true, true, true, true, true, true, true, true, true, true, true, false, false, false, false, false, false, false, false, false, false, false, false, false] rfl rfl (any_of HT_.out (by kernel_rfl)) (fun _ _ _ h => h) (Or.inr ⟨by rfl, rfl⟩) ?_ ?_
        rotate_left
        ·simp only [Act.put, List.setIfInBounds_toArray, List.set_cons_zero, List.set_cons_succ, i64_w, i32_w]
         rfl
        refine pure_ (i := 31) (N := some 41) (v := undef) (a' := ?_) #[true, true, true, true, true, true, true, true, true, true, true, true, true, true, true, true, true, true, true, true, true, true, true, true, true, true, true, true, true, true, true, true, false, false, false, false, false, false, false, false, false, false, false, false] rfl rfl (any_of HT_.out (by kernel_rfl)) (fun _ _ _ h => h) (Or.inr ⟨by rfl, rfl⟩) ?_ ?_
        rotate_left
        ·simp only [Act.put, List.setIfInBounds_toArray, List.set_cons_zero, List.set_cons_succ, i64_w, i32_w]
         rfl
        refine pure_ (i := 32) (N := some 42) (v := undef) (a' := ?_) #[true, true, true, true, true, true, true, true, true, true, true, true, true, true, true, true, true, true, true, true, true, true, true, true, true, true, true, true, true, true, true, true, true, false, false, false, false, false, false, false, false, false, false, false] rfl rfl (any_of HT_.out (by kernel_rfl)) (fun _ _ _ h => h) (Or.inr ⟨by rfl, rfl⟩) ?_ ?_
        rotate_left
        ·simp only [Act.put, List.setIfInBounds_toArray, List.set_cons_zero, List.set_cons_succ, i64_w, i32_w]
         rfl
        refine pure_ (i := 33) (N := some 43) (v := undef) (a' := ?_) #[true, true, true, true, true, true, true, true, true, true, true, true, true, true, true, true, true, true, true, true, true, true, true, true, true, true, true, true, true, true, true, true, true, true, false, false, false, false, false, false, false, false, false, false] rfl rfl (any_of HT_.out (by kernel_rfl)) (fun _ _ _ h => h) (Or.inr ⟨by rfl, rfl⟩) ?_ ?_
        rotate_left
        ·simp only [Act.put, List.setIfInBounds_toArray, List.set_cons_zero, List.set_cons_succ, i64_w, i32_w]
         rfl
        refine pure_ (i := 34) (N := some 44) (v := undef) (a' := ?_) #[true, true, true, true, true, true, true, true, true, true, true, true, true, true, true, true, true, true, true, true, true, true, true, true, true, true, true, true, true, true, true, true, true, true, true, false, false, false, false, false, false, false, false, false] rfl rfl (any_of HT_.out (by kernel_rfl)) (fun _ _ _ h => h) (Or.inr ⟨by rfl, rfl⟩) ?_ ?_
        rotate_left
        ·simp only [Act.put, List.setIfInBounds_toArray, List.set_cons_zero, List.set_cons_succ, i64_w, i32_w]
         rfl
        refine pure_ (i := 35) (N := some 45) (v := undef) (a' := ?_) #[true, true, true, true, true, true, true, true, true, true, true, true, true, true, true, true, true, true, true, true, true, true, true, true, true, true, true, true, true, true, true, true, true, true, true, true, false, false, false, false, false, false, false, false] rfl rfl (any_of HT_.out (by kernel_rfl)) (fun _ _ _ h => h) (Or.inr ⟨by rfl, rfl⟩) ?_ ?_
        rotate_left
        ·simp only [Act.put, List.setIfInBounds_toArray, List.set_cons_zero, List.set_cons_succ, i64_w, i32_w]
         rfl
        refine pure_ (i := 36) (N := some 46) (v := undef) (a' := ?_) #[true, true, true, true, true, true, true, true, true, true, true, true, true, true, true, true, true, true, true, true, true, true, true, true, true, true, true, true, true, true, true, true, true, true, true, true, true, false, false, false, false, false, false, false] rfl rfl (any_of HT_.out (by kernel_rfl)) (fun _ _ _ h => h) (Or.inr ⟨by rfl, rfl⟩) ?_ ?_
        rotate_left
        ·simp only [Act.put, List.setIfInBounds_toArray, List.set_cons_zero, List.set_cons_succ, i64_w, i32_w]
         rfl
        refine pure_ (i := 37) (N := some 47) (v := undef) (a' := ?_) #[true, true, true, true, true, true, true, true, true, true, true, true, true, true, true, true, true, true, true, true, true, true, true, true, true, true, true, true, true, true, true, true, true, true, true, true, true, true, false, false, false, false, false, false] rfl rfl (any_of HT_.out (by kernel_rfl)) (fun _ _ _ h => h) (Or.inr ⟨by rfl, rfl⟩) ?_ ?_
        rotate_left
        ·simp only [Act.put, List.setIfInBounds_toArray, List.set_cons_zero, List.set_cons_succ, i64_w, i32_w]
         rfl
        refine pure_ (i := 38) (N := some 48) (v := undef) (a' := ?_) #[true, true, true, true, true, true, true, true, true, true, true, true, true, true, true, true, true, true, true, true, true, true, true, true, true, true, true, true, true, true, true, true, true, true, true, true, true, true, true, false, false, false, false, false] rfl rfl (any_of HT_.out (by kernel_rfl)) (fun _ _ _ h => h) (Or.inr ⟨by rfl, rfl⟩) ?_ ?_
        rotate_left
        ·simp only [Act.put, List.setIfInBounds_toArray, List.set_cons_zero, List.set_cons_succ, i64_w, i32_w]
         rfl
        refine pure_ (i := 39) (N := some 49) (v := undef) (a' := ?_) #[true, true, true, true, true, true, true, true, true, true, true, true, true, true, true, true, true, true, true, true, true, true, true, true, true, true, true, true, true, true, true, true, true, true, true, true, true, true, true, true, false, false, false, false] rfl rfl (any_of HT_.out (by kernel_rfl)) (fun _ _ _ h => h) (Or.inr ⟨by rfl, rfl⟩) ?_ ?_
        rotate_left
        ·simp only [Act.put, List.setIfInBounds_toArray, List.set_cons_zero, List.set_cons_succ, i64_w, i32_w]
         rfl
        refine pure_ (i := 40) (N := some 50) (v := undef) (a' := ?_) #[true, true, true, true, true, true, true, true, true, true, true, true, true, true, true, true, true, true, true, true, true, true, true, true, true, true, true, true, true, true, true, true, true, true, true, true, true, true, true, true, true, false, false, false] rfl rfl (any_of HT_.out (by kernel_rfl)) (fun _ _ _ h => h) (Or.inr ⟨by rfl, rfl⟩) ?_ ?_
        rotate_left
        ·simp only [Act.put, List.setIfInBounds_toArray, List.set_cons_zero, List.set_cons_succ, i64_w, i32_w]
         rfl
        refine pure_ (i := 41) (N := some 51) (v := undef) (a' := ?_) #[true, true, true, true, true, true, true, true, true, true, true, true, true, true, true, true, true, true, true, true, true, true, true, true, true, true, true, true, true, true, true, true, true, true, true, true, true, true, true, true, true, true, false, false] rfl rfl (any_of HT_.out (by kernel_rfl)) (fun _ _ _ h => h) (Or.inr ⟨by rfl, rfl⟩) ?_ ?_
        rotate_left
        ·simp only [Act.put, List.setIfInBounds_toArray, List.set_cons_zero, List.set_cons_succ, i64_w, i32_w]
         rfl
        refine pure_ (i := 42) (N := some 52) (v := undef) (a' := ?_) #[true, true, true, true, true, true, true, true, true, true, true, true, true, true, true, true, true, true, true, true, true, true, true, true, true, true, true, true, true, true, true, true, true, true, true, true, true, true, true, true, true, true, true, false] rfl rfl (any_of HT_.out (by kernel_rfl)) (fun _ _ _ h => h) (Or.inr ⟨by rfl, rfl⟩) ?_ ?_
        rotate_left
        ·simp only [Act.put, List.setIfInBounds_toArray, List.set_cons_zero, List.set_cons_succ, i64_w, i32_w]
         rfl
        refine pure_ (i := 43) (N := some 53) (v := ?_) (a' := ?_) #[true, true, true, true, true, true, true, true, true, true, true, true, true, true, true, true, true, true, true, true, true, true, true, true, true, true, true, true, true, true, true, true, true, true, true, true, true, true, true, true, true, true, true, true] rfl rfl (any_of HT_.out (by kernel_rfl)) (fun _ _ _ h => h) (Or.inl ⟨by rfl, ?_⟩) ?_ ?_
        rotate_left
        ·intro w'
         go_simp
         with_reducible rfl
        rotate_left
        ·simp only [Act.put, List.setIfInBounds_toArray, List.set_cons_zero, List.set_cons_succ, i64_w, i32_w]
         rfl
        refine done_ (done_of HT_.out (by kernel_rfl)) ?_
        try go_wp2
        go_meet
        case rel => exact ⟨_, (true), (by first | rfl | (simp; done) | (simp [*]; done)), H', ⟨by have := HK1.out; first | omega | exact Nat.le_refl _⟩, ⟨by repeat (first | (with_reducible first | exact HB.out | apply below_alloc | apply pw_below_drewN | apply below_drew1) | exact HB.out)⟩⟩
      ·replace c6 := Bool.eq_false_iff.mpr c6
       subst c6
       have H1 : (mutoscoperef5_Right.j1 k1 l0 x3_1 true) = some r := by rw [if_neg (show ¬ (false = true) by decide)] at H; exact H
       clear H
       have H := H1
       clear H1
       have H' := Aside0.mk H
       clear H
       try go_wp2
       have n0_ := Aside0.mk (below_drew1 HB.out)
       clear HB
       have HB := n0_
       clear n0_
       have p416 : 0 ≤ (x3_1 : Int) := of_decide_eq_true (by first | (with_reducible assumption) | assumption)
       have q416 : x3_1 < (l0.length : Int) := of_decide_eq_true (by first | (with_reducible assumption) | assumption)
       obtain ⟨ad416, e416, hx416_0, hx416_1, hx416_2, hx416_3, hx416_4, hx416_5, hx416_6⟩ := at_T34 HR0.out x3_1 p416 q416
       have hw416_6 := hx416_6
       have hw416_5 := hx416_5
       have hw416_4 := hx416_4
       have hw416_3 := hx416_3
       have hw416_2 := hx416_2
       have hw416_1 := hx416_1
       have hw416_0 := hx416_0
       cases e416
       replace hx416_0 := (HB.out.cell (World.block_lt_of_cell? w _ hx416_0)).trans hx416_0
       replace hx416_1 := (HB.out.cell (World.block_lt_of_cell? w _ hx416_1)).trans hx416_1
       replace hx416_2 := (HB.out.cell (World.block_lt_of_cell? w _ hx416_2)).trans hx416_2
       replace hx416_3 := (HB.out.cell (World.block_lt_of_cell? w _ hx416_3)).trans hx416_3
       replace hx416_4 := (HB.out.cell (World.block_lt_of_cell? w _ hx416_4)).trans hx416_4
       replace hx416_5 := (HB.out.cell (World.block_lt_of_cell? w _ hx416_5)).trans hx416_5
       replace hx416_6 := (HB.out.cell (World.block_lt_of_cell? w _ hx416_6)).trans hx416_6
       replace p416 := eq_true p416
       replace q416 := eq_true q416
       have p417 : 0 ≤ (x3_1 : Int) := of_decide_eq_true (by first | (with_reducible assumption) | assumption)
       have q417 : x3_1 < (l0.length : Int) := of_decide_eq_true (by first | (with_reducible assumption) | assumption)
       obtain ⟨ad417, e417, hx417_0, hx417_1, hx417_2, hx417_3, hx417_4, hx417_5, hx417_6⟩ := at_T34 HR0.out x3_1 p417 q417
       have hw417_6 := hx417_6
       have hw417_5 := hx417_5
       have hw417_4 := hx417_4
       have hw417_3 := hx417_3
       have hw417_2 := hx417_2
       have hw417_1 := hx417_1
       have hw417_0 := hx417_0
       obtain rfl : ad416 = ad417 := (by injection e417)
       replace hx417_0 := (HB.out.cell (World.block_lt_of_cell? w _ hx417_0)).trans hx417_0
       replace hx417_1 := (HB.out.cell (World.block_lt_of_cell? w _ hx417_1)).trans hx417_1
       replace hx417_2 := (HB.out.cell (World.block_lt_of_cell? w _ hx417_2)).trans hx417_2
       replace hx417_3 := (HB.out.cell (World.block_lt_of_cell? w _ hx417_3)).trans hx417_3
       replace hx417_4 := (HB.out.cell (World.block_lt_of_cell? w _ hx417_4)).trans hx417_4
       replace hx417_5 := (HB.out.cell (World.block_lt_of_cell? w _ hx417_5)).trans hx417_5
       replace hx417_6 := (HB.out.cell (World.block_lt_of_cell? w _ hx417_6)).trans hx417_6
       replace p417 := eq_true p417
       replace q417 := eq_true q417
       have p418 : 0 ≤ (x3_1 : Int) := of_decide_eq_true (by first | (with_reducible assumption) | assumption)
       have q418 : x3_1 < (l0.length : Int) := of_decide_eq_true (by first | (with_reducible assumption) | assumption)
       obtain ⟨ad418, e418, hx418_0, hx418_1, hx418_2, hx418_3, hx418_4, hx418_5, hx418_6⟩ := at_T34 HR0.out x3_1 p418 q418
       have hw418_6 := hx418_6
       have hw418_5 := hx418_5
       have hw418_4 := hx418_4
       have hw418_3 := hx418_3
       have hw418_2 := hx418_2
       have hw418_1 := hx418_1
       have hw418_0 := hx418_0
       obtain rfl : ad416 = ad418 := (by injection e418)
       replace hx418_0 := (HB.out.cell (World.block_lt_of_cell? w _ hx418_0)).trans hx418_0
       replace hx418_1 := (HB.out.cell (World.block_lt_of_cell? w _ hx418_1)).trans hx418_1
       replace hx418_2 := (HB.out.cell (World.block_lt_of_cell? w _ hx418_2)).trans hx418_2
       replace hx418_3 := (HB.out.cell (World.block_lt_of_cell? w _ hx418_3)).trans hx418_3
       replace hx418_4 := (HB.out.cell (World.block_lt_of_cell? w _ hx418_4)).trans hx418_4
       replace hx418_5 := (HB.out.cell (World.block_lt_of_cell? w _ hx418_5)).trans hx418_5
       replace hx418_6 := (HB.out.cell (World.block_lt_of_cell? w _ hx418_6)).trans hx418_6
       replace p418 := eq_true p418
       replace q418 := eq_true q418
       refine start_ (n := 44) (S := fun w' => w'.cell? (ad416.add ((x3_1).toNat * 7)) = some (.int .i64 ((rd_T34 l0 x3_1).f0)) ∧ w'.cell? ⟨(ad416.add ((x3_1).toNat * 7)).block, (ad416.add ((x3_1).toNat * 7)).off + 1, none⟩ = some (.int .i64 ((rd_T34 l0 x3_1).f1)) ∧ w'.cell? ⟨(ad416.add ((x3_1).toNat * 7)).block, (ad416.add ((x3_1).toNat * 7)).off + 2, none⟩ = some (.int .i64 ((rd_T34 l0 x3_1).f2)) ∧ w'.cell? ⟨(ad416.add ((x3_1).toNat * 7)).block, (ad416.add ((x3_1).toNat * 7)).off + 3, none⟩ = some (.int .i64 ((rd_T34 l0 x3_1).f3.f0)) ∧ w'.cell? ⟨(ad416.add ((x3_1).toNat * 7)).block, (ad416.add ((x3_1).toNat * 7)).off + 4, none⟩ = some (.int .i64 ((rd_T34 l0 x3_1).f3.f1)) ∧ w'.cell? ⟨(ad416.add ((x3_1).toNat * 7)).block, (ad416.add ((x3_1).toNat * 7)).off + 5, none⟩ = some (.int .i64 ((rd_T34 l0 x3_1).f3.f2)) ∧ w'.cell? ⟨(ad416.add ((x3_1).toNat * 7)).block, (ad416.add ((x3_1).toNat * 7)).off + 6, none⟩ = some (.int .i64 ((rd_T34 l0 x3_1).f3.f3)) ∧ w'.cell? (ad416.add ((x3_1).toNat * 7)) = some (.int .i64 ((rd_T34 l0 x3_1).f0)) ∧ w'.cell? ⟨(ad416.add ((x3_1).toNat * 7)).block, (ad416.add ((x3_1).toNat * 7)).off + 1, none⟩ = some (.int .i64 ((rd_T34 l0 x3_1).f1)) ∧ w'.cell? ⟨(ad416.add ((x3_1).toNat * 7)).block, (ad416.add ((x3_1).toNat * 7)).off + 2, none⟩ = some (.int .i64 ((rd_T34 l0 x3_1).f2)) ∧ w'.cell? ⟨(ad416.add ((x3_1).toNat * 7)).block, (ad416.add ((x3_1).toNat * 7)).off + 3, none⟩ = some (.int .i64 ((rd_T34 l0 x3_1).f3.f0)) ∧ w'.cell? ⟨(ad416.add ((x3_1).toNat * 7)).block, (ad416.add ((x3_1).toNat * 7)).off + 4, none⟩ = some (.int .i64 ((rd_T34 l0 x3_1).f3.f1)) ∧ w'.cell? ⟨(ad416.add ((x3_1).toNat * 7)).block, (ad416.add ((x3_1).toNat * 7)).off + 5, none⟩ = some (.int .i64 ((rd_T34 l0 x3_1).f3.f2)) ∧ w'.cell? ⟨(ad416.add ((x3_1).toNat * 7)).block, (ad416.add ((x3_1).toNat * 7)).off + 6, none⟩ = some (.int .i64 ((rd_T34 l0 x3_1).f3.f3)) ∧ w'.cell? (ad416.add ((x3_1).toNat * 7)) = some (.int .i64 ((rd_T34 l0 x3_1).f0)) ∧ w'.cell? ⟨(ad416.add ((x3_1).toNat * 7)).block, (ad416.add ((x3_1).toNat * 7)).off + 1, none⟩ = some (.int .i64 ((rd_T34 l0 x3_1).f1)) ∧ w'.cell? ⟨(ad416.add ((x3_1).toNat * 7)).block, (ad416.add ((x3_1).toNat * 7)).off + 2, none⟩ = some (.int .i64 ((rd_T34 l0 x3_1).f2)) ∧ w'.cell? ⟨(ad416.add ((x3_1).toNat * 7)).block, (ad416.add ((x3_1).toNat * 7)).off + 3, none⟩ = some (.int .i64 ((rd_T34 l0 x3_1).f3.f0)) ∧ w'.cell? ⟨(ad416.add ((x3_1).toNat * 7)).block, (ad416.add ((x3_1).toNat * 7)).off + 4, none⟩ = some (.int .i64 ((rd_T34 l0 x3_1).f3.f1)) ∧ w'.cell? ⟨(ad416.add ((x3_1).toNat * 7)).block, (ad416.add ((x3_1).toNat * 7)).off + 5, none⟩ = some (.int .i64 ((rd_T34 l0 x3_1).f3.f2)) ∧ w'.cell? ⟨(ad416.add ((x3_1).toNat * 7)).block, (ad416.add ((x3_1).toNat * 7)).off + 6, none⟩ = some (.int .i64 ((rd_T34 l0 x3_1).f3.f3))) (ds := []) #[false, false, false, false, false, false, false, false, false, false, false, false, false, false, false, false, false, false, false, false, false, false, false, false, false, false, false, false, false, false, false, false, false, false, false, false, false, false, false, false, false, false, false, false] (by kernel_rfl) rfl rfl ⟨((HB.out.cell (World.block_lt_of_cell? w _ hw416_0)).trans hw416_0), ((HB.out.cell (World.block_lt_of_cell? w _ hw416_1)).trans hw416_1), ((HB.out.cell (World.block_lt_of_cell? w _ hw416_2)).trans hw416_2), ((HB.out.cell (World.block_lt_of_cell? w _ hw416_3)).trans hw416_3), ((HB.out.cell (World.block_lt_of_cell? w _ hw416_4)).trans hw416_4), ((HB.out.cell (World.block_lt_of_cell? w _ hw416_5)).trans hw416_5), ((HB.out.cell (World.block_lt_of_cell? w _ hw416_6)).trans hw416_6), ((HB.out.cell (World.block_lt_of_cell? w _ hw417_0)).trans hw417_0), ((HB.out.cell (World.block_lt_of_cell? w _ hw417_1)).trans hw417_1), ((HB.out.cell (World.block_lt_of_cell? w _ hw417_2)).trans hw417_2), ((HB.out.cell (World.block_lt_of_cell? w _ hw417_3)).trans hw417_3), ((HB.out.cell (World.block_lt_of_cell? w _ hw417_4)).trans hw417_4), ((HB.out.cell (World.block_lt_of_cell? w _ hw417_5)).trans hw417_5), ((HB.out.cell (World.block_lt_of_cell? w _ hw417_6)).trans hw417_6), ((HB.out.cell (World.block_lt_of_cell? w _ hw418_0)).trans hw418_0), ((HB.out.cell (World.block_lt_of_cell? w _ hw418_1)).trans hw418_1), ((HB.out.cell (World.block_lt_of_cell? w _ hw418_2)).trans hw418_2), ((HB.out.cell (World.block_lt_of_cell? w _ hw418_3)).trans hw418_3), ((HB.out.cell (World.block_lt_of_cell? w _ hw418_4)).trans hw418_4), ((HB.out.cell (World.block_lt_of_cell? w _ hw418_5)).trans hw418_5), ((HB.out.cell (World.block_lt_of_cell? w _ hw418_6)).trans hw418_6)⟩ (fun hHeld => ?_); refine with_tabW mutoscoperef5_Right.tab4 mutoscoperef5_Right.bits4 (fun HT_ HW_ => ?_)
       generalize wr.drew = w19 at HB hx416_0 hx416_1 hx416_2 hx416_3 hx416_4 hx416_5 hx416_6 hx417_0 hx417_1 hx417_2 hx417_3 hx417_4 hx417_5 hx417_6 hx418_0 hx418_1 hx418_2 hx418_3 hx418_4 hx418_5 hx418_6 hHeld ⊢
       refine pure_ (i := 0) (N := some 10) (v := ?_) (a' := ?_) #[true, false, false, false, false, false, false, false, false, false, false, false, false, false, false, false, false, false, false, false, false, false, false, false, false, false, false, false, false, false, false, false, false, false, false, false, false, false, false, false, false, false, false, false] rfl rfl (any_of HT_.out (by kernel_rfl)) (fun _ _ _ h => h) (Or.inl ⟨by rfl, ?_⟩) ?_ ?_
       rotate_left
       ·intro w'
        go_simp
        with_reducible rfl
       rotate_left
       ·simp only [Act.put, List.setIfInBounds_toArray, List.set_cons_zero, List.set_cons_succ, i64_w, i32_w]
        rfl
       refine pure_ (i := 1) (N := some 11) (v := ?_) (a' := ?_) #[true, true, false, false, false, false, false, false, false, false, false, false, false, false, false, false, false, false, false, false, false, false, false, false, false, false, false, false, false, false, false, false, false, false, false, false, false, false, false, false, false, false, false, false] rfl rfl (any_of HT_.out (by kernel_rfl)) (fun _ _ _ h => h) (Or.inl ⟨by rfl, ?_⟩) ?_ ?_
       rotate_left
       ·intro w'
        go_simp
        with_reducible rfl
       rotate_left
       ·simp only [Act.put, List.setIfInBounds_toArray, List.set_cons_zero, List.set_cons_succ, i64_w, i32_w]
        rfl
       refine pure_ (i := 2) (N := some 12) (v := ?_) (a' := ?_) #[true, true, true, false, false, false, false, false, false, false, false, false, false, false, false, false, false, false, false, false, false, false, false, false, false, false, false, false, false, false, false, false, false, false, false, false, false, false, false, false, false, false, false, false] rfl rfl (any_of HT_.out (by kernel_rfl)) (fun _ _ _ h => h) (Or.inl ⟨by rfl, ?_⟩) ?_ ?_
       rotate_left
       ·intro w'
        go_simp
        with_reducible rfl
       rotate_left
       ·simp only [Act.put, List.setIfInBounds_toArray, List.set_cons_zero, List.set_cons_succ, i64_w, i32_w]
        rfl
       refine pure_ (i := 3) (N := some 13) (v := ?_) (a' := ?_) #[true, true, true, true, false, false, false, false, false, false, false, false, false, false, false, false, false, false, false, false, false, false, false, false, false, false, false, false, false, false, false, false, false, false, false, false, false, false, false, false, false, false, false, false] rfl rfl (any_of HT_.out (by kernel_rfl)) (fun _ _ _ h => h) (Or.inl ⟨by rfl, ?_⟩) ?_ ?_
       rotate_left
       ·intro w'
        go_simp
        with_reducible rfl
       rotate_left
       ·simp only [Act.put, List.setIfInBounds_toArray, List.set_cons_zero, List.set_cons_succ, i64_w, i32_w]
        rfl
       refine pure_ (i := 5) (N := some 15) (v := ?_) (a' := ?_) #[true, true, true, true, false, true, false, false, false, false, false, false, false, false, false, false, false, false, false, false, false, false, false, false, false, false, false, false, false, false, false, false, false, false, false, false, false, false, false, false, false, false, false, false] rfl rfl (any_of HT_.out (by kernel_rfl)) (fun _ _ _ h => h) (Or.inl ⟨by rfl, ?_⟩) ?_ ?_
       rotate_left
       ·intro w'
        go_simp
        with_reducible rfl
       rotate_left
       ·simp only [Act.put, List.setIfInBounds_toArray, List.set_cons_zero, List.set_cons_succ, i64_w, i32_w]
        rfl
       refine pure_ (i := 6) (N := some 16) (v := ?_) (a' := ?_) #[true, true, true, true, false, true, true, false, false, false, false, false, false, false, false, false, false, false, false, false, false, false, false, false, false, false, false, false, false, false, false, false, false, false, false, false, false, false, false, false, false, false, false, false] rfl rfl (any_of HT_.out (by kernel_rfl)) (fun _ _ _ h => h) (Or.inl ⟨by rfl, ?_⟩) ?_ ?_
       rotate_left
       ·intro w'
        go_simp
        with_reducible rfl
       rotate_left
       ·simp only [Act.put, List.setIfInBounds_toArray, List.set_cons_zero, List.set_cons_succ, i64_w, i32_w]
        rfl
       refine pure_ (i := 7) (N := some 17) (v := ?_) (a' := ?_) #[true, true, true, true, false, true, true, true, false, false, false, false, false, false, false, false, false, false, false, false, false, false, false, false, false, false, false, false, false, false, false, false, false, false, false, false, false, false, false, false, false, false, false, false] rfl rfl (any_of HT_.out (by kernel_rfl)) (fun _ _ _ h => h) (Or.inl ⟨by rfl, ?_⟩) ?_ ?_
       rotate_left
       ·intro w'
        go_simp
        with_reducible rfl
       rotate_left
       ·simp only [Act.put, List.setIfInBounds_toArray, List.set_cons_zero, List.set_cons_succ, i64_w, i32_w]
        rfl
       refine pure_ (i := 8) (N := some 18) (v := ?_) (a' := ?_) #[true, true, true, true, false, true, true, true, true, false, false, false, false, false, false, false, false, false, false, false, false, false, false, false, false, false, false, false, false, false, false, false, false, false, false, false, false, false, false, false, false, false, false, false] rfl rfl (any_of HT_.out (by kernel_rfl)) (fun _ _ _ h => h) (Or.inl ⟨by rfl, ?_⟩) ?_ ?_
       rotate_left
       ·intro w'
        go_simp
        with_reducible rfl
       rotate_left
       ·simp only [Act.put, List.setIfInBounds_toArray, List.set_cons_zero, List.set_cons_succ, i64_w, i32_w]
        rfl
       refine pure_ (i := 10) (N := some 20) (v := ?_) (a' := ?_) #[true, true, true, true, false, true, true, true, true, false, true, false, false, false, false, false, false, false, false, false, false, false, false, false, false, false, false, false, false, false, false, false, false, false, false, false, false, false, false, false, false, false, false, false] rfl rfl (any_of HT_.out (by kernel_rfl)) (fun _ _ _ h => h) (Or.inl ⟨by rfl, ?_⟩) ?_ ?_
       rotate_left
       ·intro w'
        go_simp
        with_reducible rfl
       rotate_left
       ·simp only [Act.put, List.setIfInBounds_toArray, List.set_cons_zero, List.set_cons_succ, i64_w, i32_w]
        rfl
       refine pure_ (i := 11) (N := some 21) (v := ?_) (a' := ?_) #[true, true, true, true, false, true, true, true, true, false, true, true, false, false, false, false, false, false, false, false, false, false, false, false, false, false, false, false, false, false, false, false, false, false, false, false, false, false, false, false, false, false, false, false] rfl rfl (any_of HT_.out (by kernel_rfl)) (fun _ _ _ h => h) (Or.inl ⟨by rfl, ?_⟩) ?_ ?_
       rotate_left
       ·intro w'
        go_simp
        with_reducible rfl
       rotate_left
       ·simp only [Act.put, List.setIfInBounds_toArray, List.set_cons_zero, List.set_cons_succ, i64_w, i32_w]
        rfl
       refine pure_ (i := 12) (N := some 22) (v := ?_) (a' := ?_) #[true, true, true, true, false, true, true, true, true, false, true, true, true, false, false, false, false, false, false, false, false, false, false, false, false, false, false, false, false, false, false, false, false, false, false, false, false, false, false, false, false, false, false, false] rfl rfl (any_of HT_.out (by kernel_rfl)) (fun _ _ _ h => h) (Or.inl ⟨by rfl, ?_⟩) ?_ ?_
       rotate_left
       ·intro w'
        go_simp
        with_reducible rfl
       rotate_left
       ·simp only [Act.put, List.setIfInBounds_toArray, List.set_cons_zero, List.set_cons_succ, i64_w, i32_w]
        rfl
       refine pure_ (i := 13) (N := some 23) (v := ?_) (a' := ?_) #[true, true, true, true, false, true, true, true, true, false, true, true, true, true, false, false, false, false, false, false, false, false, false, false, false, false, false, false, false, false, false, false, false, false, false, false, false, false, false, false, false, false, false, false] rfl rfl (any_of HT_.out (by kernel_rfl)) (fun _ _ _ h => h) (Or.inl ⟨by rfl, ?_⟩) ?_ ?_
       rotate_left
       ·intro w'
        go_simp
        with_reducible rfl
       rotate_left
       ·simp only [Act.put, List.setIfInBounds_toArray, List.set_cons_zero, List.set_cons_succ, i64_w, i32_w]
        rfl
       refine take_ (i := 4) (N := some 14) (v := ?_) (a' := ?_) #[true, true, true, true, true, true, true, true, true, false, true, true, true, true, false, false, false, false, false, false, false, false, false, false, false, false, false, false, false, false, false, false, false, false, false, false, false, false, false, false, false, false, false, false] rfl rfl (take_ofW HT_.out HW_.out (by kernel_rfl)) (fun _ _ _ h => h) (Or.inl ⟨by rfl, ?_⟩) hHeld ?_ ?_
       rotate_left
       ·rintro w' ⟨s0, s1, s2, s3, s4, s5, s6, s7, s8, s9, s10, s11, s12, s13, s14, s15, s16, s17, s18, s19, s20⟩
        go_simp
        with_reducible rfl
       rotate_left
       ·simp only [Act.put, List.setIfInBounds_toArray, List.set_cons_zero, List.set_cons_succ, i64_w, i32_w]
        rfl
       refine take_ (i := 9) (N := some 19) (v := ?_) (a' := ?_) #[true, true, true, true, true, true, true, true, true, true, true, true, true, true, false, false, false, false, false, false, false, false, false, false, false, false, false, false, false, false, false, false, false, false, false, false, false, false, false, false, false, false, false, false] rfl rfl (take_ofW HT_.out HW_.out (by kernel_rfl)) (fun _ _ _ h => h) (Or.inl ⟨by rfl, ?_⟩) hHeld ?_ ?_
       rotate_left
       ·rintro w' ⟨s0, s1, s2, s3, s4, s5, s6, s7, s8, s9, s10, s11, s12, s13, s14, s15, s16, s17, s18, s19, s20⟩
        go_simp
        with_reducible rfl
       rotate_left
       ·simp only [Act.put, List.setIfInBounds_toArray, List.set_cons_zero, List.set_cons_succ, i64_w, i32_w]
        rfl
       refine take_ (i := 14) (N := some 24) (v := ?_) (a' := ?_) #[true, true, true, true, true, true, true, true, true, true, true, true, true, true, true, false, false, false, false, false, false, false, false, false, false, false, false, false, false, false, false, false, false, false, false, false, false, false, false, false, false, false, false, false] rfl rfl (take_ofW HT_.out HW_.out (by kernel_rfl)) (fun _ _ _ h => h) (Or.inl ⟨by rfl, ?_⟩) hHeld ?_ ?_
       rotate_left
       ·rintro w' ⟨s0, s1, s2, s3, s4, s5, s6, s7, s8, s9, s10, s11, s12, s13, s14, s15, s16, s17, s18, s19, s20⟩
        go_simp
        with_reducible rfl
       rotate_left
       ·simp only [Act.put, List.setIfInBounds_toArray, List.set_cons_zero, List.set_cons_succ, i64_w, i32_w]
        rfl
       refine one_ (i := 15) (N := some 25) #[true, true, true, true, true, true, true, true, true, true, true, true, true, true, true, true, false, false, false, false, false, false, false, false, false, false, false, false, false, false, false, false, false, false, false, false, false, false, false, false, false, false, false, false] rfl rfl (one_of HT_.out (by kernel_rfl)) (by decide) (fun K hK => ?_)
       refine goes_ Try.func53 (by kernel_rfl) rfl #[.int .i64 ((rd_T34 l0 x3_1).f0), .int .i64 ((rd_T34 l0 x3_1).f2), .agg #[.int .i64 ((rd_T34 l0 x3_1).f3.f0), .int .i64 ((rd_T34 l0 x3_1).f3.f1), .int .i64 ((rd_T34 l0 x3_1).f3.f2), .int .i64 ((rd_T34 l0 x3_1).f3.f3)]] (by rfl) rfl rfl (by (try simp only [List.map_toArray, List.map_cons, List.map_nil]); first | done | rfl | (simp only [List.length_drop, List.length_take]; rfl)) ?_
       with_reducible refine (mutoscoperef5_Moves.calls ((rd_T34 l0 x3_1).f0) ((rd_T34 l0 x3_1).f2) ((rd_T34 l0 x3_1).f3.f0) ((rd_T34 l0 x3_1).f3.f1) ((rd_T34 l0 x3_1).f3.f2) ((rd_T34 l0 x3_1).f3.f3) false _ A5.out).mono ?_
       rintro e w20 ⟨rfl, hb⟩
       refine ⟨_, rfl, ?_⟩
       have n0_ := Aside0.mk (below_step (by repeat (first | (with_reducible first | exact HB.out | apply below_alloc | apply pw_below_drewN | apply below_drew1) | exact HB.out)) hb)
       clear HB
       have HB := n0_
       clear n0_
       (try clear hb)
       (try clear hb2)
       (try clear hk)
       (try clear hi)
       refine hK.out _ _ ⟨((HB.out.cell (World.block_lt_of_cell? w _ hw416_0)).trans hw416_0), ((HB.out.cell (World.block_lt_of_cell? w _ hw416_1)).trans hw416_1), ((HB.out.cell (World.block_lt_of_cell? w _ hw416_2)).trans hw416_2), ((HB.out.cell (World.block_lt_of_cell? w _ hw416_3)).trans hw416_3), ((HB.out.cell (World.block_lt_of_cell? w _ hw416_4)).trans hw416_4), ((HB.out.cell (World.block_lt_of_cell? w _ hw416_5)).trans hw416_5), ((HB.out.cell (World.block_lt_of_cell? w _ hw416_6)).trans hw416_6), ((HB.out.cell (World.block_lt_of_cell? w _ hw417_0)).trans hw417_0), ((HB.out.cell (World.block_lt_of_cell? w _ hw417_1)).trans hw417_1), ((HB.out.cell (World.block_lt_of_cell? w _ hw417_2)).trans hw417_2), ((HB.out.cell (World.block_lt_of_cell? w _ hw417_3)).trans hw417_3), ((HB.out.cell (World.block_lt_of_cell? w _ hw417_4)).trans hw417_4), ((HB.out.cell (World.block_lt_of_cell? w _ hw417_5)).trans hw417_5), ((HB.out.cell (World.block_lt_of_cell? w _ hw417_6)).trans hw417_6), ((HB.out.cell (World.block_lt_of_cell? w _ hw418_0)).trans hw418_0), ((HB.out.cell (World.block_lt_of_cell? w _ hw418_1)).trans hw418_1), ((HB.out.cell (World.block_lt_of_cell? w _ hw418_2)).trans hw418_2), ((HB.out.cell (World.block_lt_of_cell? w _ hw418_3)).trans hw418_3), ((HB.out.cell (World.block_lt_of_cell? w _ hw418_4)).trans hw418_4), ((HB.out.cell (World.block_lt_of_cell? w _ hw418_5)).trans hw418_5), ((HB.out.cell (World.block_lt_of_cell? w _ hw418_6)).trans hw418_6)⟩ (fun hHeld => ?_)
       clear hK K
       refine norm_ (a' := ?_) ?_ ?_
       rotate_left
       ·show Act.put _ (some 25) _ = _
        simp only [Act.put, List.setIfInBounds_toArray, List.set_cons_zero, List.set_cons_succ, i64_w, i32_w]
        rfl
       refine pure_ (i := 16) (N := some 26) (v := ?_) (a' := ?_) #[true, true, true, true, true, true, true, true, true, true, true, true, true, true, true, true, true, false, false, false, false, false, false, false, false, false, false, false, false, false, false, false, false, false, false, false, false, false, false, false, false, false, false, false] rfl rfl (any_of HT_.out (by kernel_rfl)) (fun _ _ _ h => h) (Or.inl ⟨by rfl, ?_⟩) ?_ ?_
       rotate_left
       ·intro w'
        go_simp
        with_reducible rfl
       rotate_left
       ·simp only [Act.put, List.setIfInBounds_toArray, List.set_cons_zero, List.set_cons_succ, i64_w, i32_w]
        rfl
       refine pure_ (i := 17) (N := some 27) (v := ?_) (a' := ?_) #[true, true, true, true, true, true, true, true, true, true, true, true, true, true, true, true, true, true, false, false, false, false, false, false, false, false, false, false, false, false, false, false, false, false, false, false, false, false, false, false, false, false, false, false] rfl rfl (any_of HT_.out (by kernel_rfl)) (fun _ _ _ h => h) (Or.inl ⟨by rfl, ?_⟩) ?_ ?_
       rotate_left
       ·intro w'
        go_simp
        with_reducible rfl
       rotate_left
       ·simp only [Act.put, List.setIfInBounds_toArray, List.set_cons_zero, List.set_cons_succ, i64_w, i32_w]
        rfl
       refine pure_ (i := 18) (N := some 28) (v := undef) (a' := ?_) #[true, true, true, true, true, true, true, true, true, true, true, true, true, true, true, true, true, true, true, false, false, false, false, false, false, false, false, false, false, false, false, false, false, false, false, false, false, false, false, false, false, false, false, false] rfl rfl (any_of HT_.out (by kernel_rfl)) (fun _ _ _ h => h) (Or.inr ⟨by rfl, rfl⟩) ?_ ?_
       rotate_left
       ·simp only [Act.put, List.setIfInBounds_toArray, List.set_cons_zero, List.set_cons_succ, i64_w, i32_w]
        rfl
       refine pure_ (i := 19) (N := some 29) (v := undef) (a' := ?_) #[true, true, true, true, true, true, true, true, true, true, true, true, true, true, true, true, true, true, true, true, false, false, false, false, false, false, false, false, false, false, false, false, false, false, false, false, false, false, false, false, false, false, false, false] rfl rfl (any_of HT_.out (by kernel_rfl)) (fun _ _ _ h => h) (Or.inr ⟨by rfl, rfl⟩) ?_ ?_
       rotate_left
       ·simp only [Act.put, List.setIfInBounds_toArray, List.set_cons_zero, List.set_cons_succ, i64_w, i32_w]
        rfl
       refine pure_ (i := 20) (N := some 30) (v := undef) (a' := ?_) #[true, true, true, true, true, true, true, true, true, true, true, true, true, true, true, true, true, true, true, true, true, false, false, false, false, false, false, false, false, false, false, false, false, false, false, false, false, false, false, false, false, false, false, false] rfl rfl (any_of HT_.out (by kernel_rfl)) (fun _ _ _ h => h) (Or.inr ⟨by rfl, rfl⟩) ?_ ?_
       rotate_left
       ·simp only [Act.put, List.setIfInBounds_toArray, List.set_cons_zero, List.set_cons_succ, i64_w, i32_w]
        rfl
       refine pure_ (i := 21) (N := some 31) (v := undef) (a' := ?_) #[true, true, true, true, true, true, true, true, true, true, true, true, true, true, true, true, true, true, true, true, true, true, false, false, false, false, false, false, false, false, false, false, false, false, false, false, false, false, false, false, false, false, false, false] rfl rfl (any_of HT_.out (by kernel_rfl)) (fun _ _ _ h => h) (Or.inr ⟨by rfl, rfl⟩) ?_ ?_
       rotate_left
       ·simp only [Act.put, List.setIfInBounds_toArray, List.set_cons_zero, List.set_cons_succ, i64_w, i32_w]
        rfl
       refine pure_ (i := 22) (N := some 32) (v := undef) (a' := ?_) #[true, true, true, true, true, true, true, true, true, true, true, true, true, true, true, true, true, true, true, true, true, true, true, false, false, false, false, false, false, false, false, false, false, false, false, false, false, false, false, false, false, false, false, false] rfl rfl (any_of HT_.out (by kernel_rfl)) (fun _ _ _ h => h) (Or.inr ⟨by rfl, rfl⟩) ?_ ?_
       rotate_left
       ·simp only [Act.put, List.setIfInBounds_toArray, List.set_cons_zero, List.set_cons_succ, i64_w, i32_w]
        rfl
       refine pure_ (i := 23) (N := some 33) (v := undef) (a' := ?_) #[true, true, true, true, true, true, true, true, true, true, true, true, true, true, true, true, true, true, true, true, true, true, true, true, false, false, false, false, false, false, false, false, false, false, false, false, false, false, false, false, false, false, false, false] rfl rfl (any_of HT_.out (by kernel_rfl)) (fun _ _ _ h => h) (Or.inr ⟨by rfl, rfl⟩) ?_ ?_
       rotate_left
       ·simp only [Act.put, List.setIfInBounds_toArray, List.set_cons_zero, List.set_cons_succ, i64_w, i32_w]
        rfl
       refine pure_ (i := 24) (N := some 34) (v := undef) (a' := ?_) #[true, true, true, true, true, true, true, true, true, true, true, true, true, true, true, true, true, true, true, true, true, true, true, true, true, false, false, false, false, false, false, false, false, false, false, false, false, false, false, false, false, false, false, false] rfl rfl (any_of HT_.out (by kernel_rfl)) (fun _ _ _ h => h) (Or.inr ⟨by rfl, rfl⟩) ?_ ?_
       rotate_left
       ·simp only [Act.put, List.setIfInBounds_toArray, List.set_cons_zero, List.set_cons_succ, i64_w, i32_w]
        rfl
       refine pure_ (i := 25) (N := some 35) (v := ?_) (a' := ?_) #[true, true, true, true, true, true, true, true, true, true, true, true, true, true, true, true, true, true, true, true, true, true, true, true, true, true, false, false, false, false, false, false, false, false, false, false, false, false, false, false, false, false, false, false] rfl rfl (any_of HT_.out (by kernel_rfl)) (fun _ _ _ h => h) (Or.inl ⟨by rfl, ?_⟩) ?_ ?_
       rotate_left
       ·intro w'
        go_simp
        with_reducible rfl
       rotate_left
       ·simp only [Act.put, List.setIfInBounds_toArray, List.set_cons_zero, List.set_cons_succ, i64_w, i32_w]
        rfl
       refine pure_ (i := 26) (N := some 36) (v := ?_) (a' := ?_) #[true, true, true, true, true, true, true, true, true, true, true, true, true, true, true, true, true, true, true, true, true, true, true, true, true, true, true, false, false, false, false, false, false, false, false, false, false, false, false, false, false, false, false, false] rfl rfl (any_of HT_.out (by kernel_rfl)) (fun _ _ _ h => h) (Or.inl ⟨by rfl, ?_⟩) ?_ ?_
       rotate_left
       ·intro w'
        go_simp
        with_reducible rfl
       rotate_left
       ·simp only [Act.put, List.setIfInBounds_toArray, List.set_cons_zero, List.set_cons_succ, i64_w, i32_w]
        rfl
       refine pure_ (i := 27) (N := some 37) (v := undef) (a' := ?_) #[true, true, true, true, true, true, true, true, true, true, true, true, true, true, true, true, true, true, true, true, true, true, true, true, true, true, true, true, false, false, false, false, false, false, false, false, false, false, false, false, false, false, false, false] rfl rfl (any_of HT_.out (by kernel_rfl)) (fun _ _ _ h => h) (Or.inr ⟨by rfl, rfl⟩) ?_ ?_
       rotate_left
       ·simp only [Act.put, List.setIfInBounds_toArray, List.set_cons_zero, List.set_cons_succ, i64_w, i32_w]
        rfl
       refine pure_ (i := 28) (N := some 38) (v := undef) (a' := ?_) #[true, true, true, true, true, true, true, true, true, true, true, true, true, true, true, true, true, true, true, true, true, true, true, true, true, true, true, true, true, false, false, false, false, false, false, false, false, false, false, false, false, false, false, false] rfl rfl (any_of HT_.out (by kernel_rfl)) (fun _ _ _ h => h) (Or.inr ⟨by rfl, rfl⟩) ?_ ?_
       rotate_left
       ·simp only [Act.put, List.setIfInBounds_toArray, List.set_cons_zero, List.set_cons_succ, i64_w, i32_w]
        rfl
       refine pure_ (i := 29) (N := some 39) (v := undef) (a' := ?_) #[true, true, true, true, true, true, true, true, true, true, true, true, true, true, true, true, true, true, true, true, true, true, true, true, true, true, true, true, true, true, false, false, false, false, false, false, false, false, false, false, false, false, false, false] rfl rfl (any_of HT_.out (by kernel_rfl)) (fun _ _ _ h => h) (Or.inr ⟨by rfl, rfl⟩) ?_ ?_
       rotate_left
       ·simp only [Act.put, List.setIfInBounds_toArray, List.set_cons_zero, List.set_cons_succ, i64_w, i32_w]
        rfl
       refine pure_ (i := 30) (N := some 40) (v := undef) (a' := ?_) #[true, true, true, true, true, true, true, true, true, true, true, true, true, true, true, true, true, true, true, true, true, true, true, true, true, true, true, true, true, true, true, false, false, false, false, false, false, false, false, false, false, false, false, false] rfl rfl (any_of HT_.out (by kernel_rfl)) (fun _ _ _ h => h) (Or.inr ⟨by rfl, rfl⟩) ?_ ?_
       rotate_left
       ·simp only [Act.put, List.setIfInBounds_toArray, List.set_cons_zero, List.set_cons_succ, i64_w, i32_w]
        rfl
       refine pure_ (i := 31) (N := some 41) (v := undef) (a' := ?_) #[true, true, true, true, true, true, true, true, true, true, true, true, true, true, true, true, true, true, true, true, true, true, true, true, true, true, true, true, true, true, true, true, false, false, false, false, false, false, false, false, false, false, false, false] rfl rfl (any_of HT_.out (by kernel_rfl)) (fun _ _ _ h => h) (Or.inr ⟨by rfl, rfl⟩) ?_ ?_
       rotate_left
       ·simp only [Act.put, List.setIfInBounds_toArray, List.set_cons_zero, List.set_cons_succ, i64_w, i32_w]
        rfl
       refine pure_ (i := 32) (N := some 42) (v := undef) (a' := ?_) #[true, true, true, true, true, true, true, true, true, true, true, true, true, true, true, true, true, true, true, true, true, true, true, true, true, true, true, true, true, true, true, true, true, false, false, false, false, false, false, false, false, false, false, false] rfl rfl (any_of HT_.out (by kernel_rfl)) (fun _ _ _ h => h) (Or.inr ⟨by rfl, rfl⟩) ?_ ?_
       rotate_left
       ·simp only [Act.put, List.setIfInBounds_toArray, List.set_cons_zero, List.set_cons_succ, i64_w, i32_w]
        rfl
       refine pure_ (i := 33) (N := some 43) (v := undef) (a' := ?_) #[true, true, true, true, true, true, true, true, true, true, true, true, true, true, true, true, true, true, true, true, true, true, true, true, true, true, true, true, true, true, true, true, true, true, false, false, false, false, false, false, false, false, false, false] rfl rfl (any_of HT_.out (by kernel_rfl)) (fun _ _ _ h => h) (Or.inr ⟨by rfl, rfl⟩) ?_ ?_
       rotate_left
       ·simp only [Act.put, List.setIfInBounds_toArray, List.set_cons_zero, List.set_cons_succ, i64_w, i32_w]
        rfl
       refine pure_ (i := 34) (N := some 44) (v := undef) (a' := ?_) #[true, true, true, true, true, true, true, true, true, true, true, true, true, true, true, true, true, true, true, true, true, true, true, true, true, true, true, true, true, true, true, true, true, true, true, false, false, false, false, false, false, false, false, false] rfl rfl (any_of HT_.out (by kernel_rfl)) (fun _ _ _ h => h) (Or.inr ⟨by rfl, rfl⟩) ?_ ?_
       rotate_left
       ·simp only [Act.put, List.setIfInBounds_toArray, List.set_cons_zero, List.set_cons_succ, i64_w, i32_w]
        rfl
       refine pure_ (i := 35) (N := some 45) (v := undef) (a' := ?_) #[true, true, true, true, true, true, true, true, true, true, true, true, true, true, true, true, true, true, true, true, true, true, true, true, true, true, true, true, true, true, true, true, true, true, true, true, false, false, false, false, false, false, false, false] rfl rfl (any_of HT_.out (by kernel_rfl)) (fun _ _ _ h => h) (Or.inr ⟨by rfl, rfl⟩) ?_ ?_
       rotate_left
       ·simp only [Act.put, List.setIfInBounds_toArray, List.set_cons_zero, List.set_cons_succ, i64_w, i32_w]
        rfl
       refine pure_ (i := 36) (N := some 46) (v := undef) (a' := ?_) #[true, true, true, true, true, true, true, true, true, true, true, true, true, true, true, true, true, true, true, true, true, true, true, true, true, true, true, true, true, true, true, true, true, true, true, true, true, false, false, false, false, false, false, false] rfl rfl (any_of HT_.out (by kernel_rfl)) (fun _ _ _ h => h) (Or.inr ⟨by rfl, rfl⟩) ?_ ?_
       rotate_left
       ·simp only [Act.put, List.setIfInBounds_toArray, List.set_cons_zero, List.set_cons_succ, i64_w, i32_w]
        rfl
       refine pure_ (i := 37) (N := some 47) (v := undef) (a' := ?_) #[true, true, true, true, true, true, true, true, true, true, true, true, true, true, true, true, true, true, true, true, true, true, true, true, true, true, true, true, true, true, true, true, true, true, true, true, true, true, false, false, false, false, false, false] rfl rfl (any_of HT_.out (by kernel_rfl)) (fun _ _ _ h => h) (Or.inr ⟨by rfl, rfl⟩) ?_ ?_
       rotate_left
       ·simp only [Act.put, List.setIfInBounds_toArray, List.set_cons_zero, List.set_cons_succ, i64_w, i32_w]
        rfl
       refine pure_ (i := 38) (N := some 48) (v := undef) (a' := ?_) #[true, true, true, true, true, true, true, true, true, true, true, true, true, true, true, true, true, true, true, true, true, true, true, true, true, true, true, true, true, true, true, true, true, true, true, true, true, true, true, false, false, false, false, false] rfl rfl (any_of HT_.out (by kernel_rfl)) (fun _ _ _ h => h) (Or.inr ⟨by rfl, rfl⟩) ?_ ?_
       rotate_left
       ·simp only [Act.put, List.setIfInBounds_toArray, List.set_cons_zero, List.set_cons_succ, i64_w, i32_w]
        rfl
       refine pure_ (i := 39) (N := some 49) (v := undef) (a' := ?_) #[true, true, true, true, true, true, true, true, true, true, true, true, true, true, true, true, true, true, true, true, true, true, true, true, true, true, true, true, true, true, true, true, true, true, true, true, true, true, true, true, false, false, false, false] rfl rfl (any_of HT_.out (by kernel_rfl)) (fun _ _ _ h => h) (Or.inr ⟨by rfl, rfl⟩) ?_ ?_
       rotate_left
       ·simp only [Act.put, List.setIfInBounds_toArray, List.set_cons_zero, List.set_cons_succ, i64_w, i32_w]
        rfl
       refine pure_ (i := 40) (N := some 50) (v := undef) (a' := ?_) #[true, true, true, true, true, true, true, true, true, true, true, true, true, true, true, true, true, true, true, true, true, true, true, true, true, true, true, true, true, true, true, true, true, true, true, true, true, true, true, true, true, false, false, false] rfl rfl (any_of HT_.out (by kernel_rfl)) (fun _ _ _ h => h) (Or.inr ⟨by rfl, rfl⟩) ?_ ?_
       rotate_left
       ·simp only [Act.put, List.setIfInBounds_toArray, List.set_cons_zero, List.set_cons_succ, i64_w, i32_w]
        rfl
       refine pure_ (i := 41) (N := some 51) (v := undef) (a' := ?_) #[true, true, true, true, true, true, true, true, true, true, true, true, true, true, true, true, true, true, true, true, true, true, true, true, true, true, true, true, true, true, true, true, true, true, true, true, true, true, true, true, true, true, false, false] rfl rfl (any_of HT_.out (by kernel_rfl)) (fun _ _ _ h => h) (Or.inr ⟨by rfl, rfl⟩) ?_ ?_
       rotate_left
       ·simp only [Act.put, List.setIfInBounds_toArray, List.set_cons_zero, List.set_cons_succ, i64_w, i32_w]
        rfl
       refine pure_ (i := 42) (N := some 52) (v := undef) (a' := ?_) #[true, true, true, true, true, true, true, true, true, true, true, true, true, true, true, true, true, true, true, true, true, true, true, true, true, true, true, true, true, true, true, true, true, true, true, true, true, true, true, true, true, true, true, false] rfl rfl (any_of HT_.out (by kernel_rfl)) (fun _ _ _ h => h) (Or.inr ⟨by rfl, rfl⟩) ?_ ?_
       rotate_left
       ·simp only [Act.put, List.setIfInBounds_toArray, List.set_cons_zero, List.set_cons_succ, i64_w, i32_w]
        rfl
       refine pure_ (i := 43) (N := some 53) (v := ?_) (a' := ?_) #[true, true, true, true, true, true, true, true, true, true, true, true, true, true, true, true, true, true, true, true, true, true, true, true, true, true, true, true, true, true, true, true, true, true, true, true, true, true, true, true, true, true, true, true] rfl rfl (any_of HT_.out (by kernel_rfl)) (fun _ _ _ h => h) (Or.inl ⟨by rfl, ?_⟩) ?_ ?_
       rotate_left
       ·intro w'
        go_simp
        with_reducible rfl
       rotate_left
       ·simp only [Act.put, List.setIfInBounds_toArray, List.set_cons_zero, List.set_cons_succ, i64_w, i32_w]
        rfl
       refine done_ (done_of HT_.out (by kernel_rfl)) ?_
       try go_wp2
       go_meet
       case rel => exact ⟨_, (true), (by first | rfl | (simp; done) | (simp [*]; done)), H', ⟨by have := HK1.out; first | omega | exact Nat.le_refl _⟩, ⟨by repeat (first | (with_reducible first | exact HB.out | apply below_alloc | apply pw_below_drewN | apply below_drew1) | exact HB.out)⟩⟩
     ·rw [if_neg c4] at H
      exact absurd H (by simp)
    case rest =>
     clear HC3
     try clear p2
     try clear c4
     try clear p4
     try clear q4
     try clear hx4
     try clear c5
     try clear c6
     try clear hx416_0
     try clear hx416_1
     try clear hx416_2
     try clear hx416_3
     try clear hx416_4
     try clear hx416_5
     try clear hx416_6
     try clear hx417_0
     try clear hx417_1
     try clear hx417_2
     try clear hx417_3
     try clear hx417_4
     try clear hx417_5
     try clear hx417_6
     try clear hx418_0
     try clear hx418_1
     try clear hx418_2
     try clear hx418_3
     try clear hx418_4
     try clear hx418_5
     try clear hx418_6
     try clear p416
     try clear p417
     try clear p418
     try clear q416
     try clear q417
     try clear q418
     obtain ⟨kq, x53_2, rfl, HA, HJ2, HB⟩ := hcut
     cases kq with
     | zero => exact absurd HA.out (by simp [mutoscoperef5_Right.j1])
     | succ kj2 =>
      have H := HA.out
      clear HA
      simp only [mutoscoperef5_Right.j1] at H
      by_cases c21 : x53_2 = true
      ·subst c21
       have H1 : (some false) = some r := by rw [if_pos rfl] at H; exact H
       clear H
       have H := H1
       clear H1
       obtain rfl := Option.some.inj H
       go_wp2
       go_ret
       exact ⟨by first | rfl | (simp [errW_none, errW_some] <;> rfl) | (simp [*, errW_none, errW_some] <;> rfl), by repeat (first | (with_reducible first | exact HB.out | apply below_alloc | apply pw_below_drewN | apply below_drew1) | exact HB.out)⟩
      ·replace c21 := Bool.eq_false_iff.mpr c21
       subst c21
       have H1 : (mutoscoperef5_Right.l0 kj2 l0 (wrap64 (x3_1 + 1))) = some r := by rw [if_neg (show ¬ (false = true) by decide)] at H; exact H
       clear H
       have H := H1
       clear H1
       have H' := Aside0.mk H
       clear H
       go_wp2
       go_roundg kj2
       case measure => have := HK1.out; have := HJ2.out; omega
       case rel => exact ⟨(wrap64 (x3_1 + 1)), (by first | rfl | (simp; done) | (simp [*]; done)), H', ⟨by have := HK1.out; have := HJ2.out; omega⟩, ⟨by repeat (first | (with_reducible first | exact HB.out | apply below_alloc | apply pw_below_drewN | apply below_drew1) | exact HB.out)⟩⟩
   ·rw [if_neg c2] at H
    have c2b0 : decide (x3_1 < (l0.length : Int)) = false := decide_eq_false c2
    clear c2
    obtain rfl := Option.some.inj H
    go_wp2
    go_ret
    exact ⟨by first | rfl | (simp [errW_none, errW_some] <;> rfl) | (simp [*, errW_none, errW_some] <;> rfl), by repeat (first | (with_reducible first | exact HB.out | apply below_alloc | apply pw_below_drewN | apply below_drew1) | exact HB.out)⟩
end Go.Proofs.Ytejnbjclcdmopaa.PA
end

section
namespace Go.Proofs.Ytejnbjclcdmopaa.PA
open Go.RowKit Go.Proofs.YtejnbjclcdmopaaW.PrintWords Go.Proofs.YtejnbjclcdmopaaW.PrintLast Go.Proofs.YtejnbjclcdmopaaW.PrintMore
attribute [local go_sem] max2_int min2_int max_two min_two max_three min_three max_four min_four
attribute [local go_sem] Go.Proofs.Ytejnbjclcdmopaa.MS.isSome_setCell
set_option linter.unusedVariables false
set_option linter.unusedSimpArgs false
def mutoscoperef5_Part.f (a0 : Int) (a1 : Int) (a2 : Int) : Option (Int) := (mutoscoperef1_Hold.f a0).bind fun t205 => ((mutoscoperef1_Hold.f a1).bind fun t206 => ((mutoscoperef1_Hold.f a2).bind fun t207 => (if t207 ≤ t205 then (some 0) else (if t207 ≥ t206 then (some 65536) else (if (wrap64 (t206 - t205)) = 0 then (none) else (some (wrap64 (Int.tdiv (wrap64 ((wrap64 (t207 - t205)) * 65536)) (wrap64 (t206 - t205))))))))))
set_option maxHeartbeats 8000000 in
set_option maxRecDepth 100000 in
theorem mutoscoperef5_Part.calls (a0 : Int) (a1 : Int) (a2 : Int) (r : Int) (w : World) (h : mutoscoperef5_Part.f a0 a1 a2 = some r) :
  Calls Try.prog 24 #[.int .i64 a0, .int .i64 a1, .int .i64 a2] w fun e w' => e = .returned (.int .i64 r) ∧ Drawn0 w w' := by
 have H : ((mutoscoperef1_Hold.f a0).bind fun t205 => ((mutoscoperef1_Hold.f a1).bind fun t206 => ((mutoscoperef1_Hold.f a2).bind fun t207 => (if t207 ≤ t205 then (some 0) else (if t207 ≥ t206 then (some 65536) else (if (wrap64 (t206 - t205)) = 0 then (none) else (some (wrap64 (Int.tdiv (wrap64 ((wrap64 (t207 - t205)) * 65536)) (wrap64 (t206 - t205))))))))))) = some r := h
 clear h
 replace H := Option.bind_eq_some_iff.mp H
 obtain ⟨t205, A40, H⟩ := H
 replace H : ((mutoscoperef1_Hold.f a1).bind fun t206 => ((mutoscoperef1_Hold.f a2).bind fun t207 => (if t207 ≤ t205 then (some 0) else (if t207 ≥ t206 then (some 65536) else (if (wrap64 (t206 - t205)) = 0 then (none) else (some (wrap64 (Int.tdiv (wrap64 ((wrap64 (t207 - t205)) * 65536)) (wrap64 (t206 - t205)))))))))) = some r := H
 have A4 := Aside0.mk A40
 clear A40
 replace H := Option.bind_eq_some_iff.mp H
 obtain ⟨t206, A50, H⟩ := H
 replace H : ((mutoscoperef1_Hold.f a2).bind fun t207 => (if t207 ≤ t205 then (some 0) else (if t207 ≥ t206 then (some 65536) else (if (wrap64 (t206 - t205)) = 0 then (none) else (some (wrap64 (Int.tdiv (wrap64 ((wrap64 (t207 - t205)) * 65536)) (wrap64 (t206 - t205))))))))) = some r := H
 have A5 := Aside0.mk A50
 clear A50
 replace H := Option.bind_eq_some_iff.mp H
 obtain ⟨t207, A60, H⟩ := H
 replace H : (if t207 ≤ t205 then (some 0) else (if t207 ≥ t206 then (some 65536) else (if (wrap64 (t206 - t205)) = 0 then (none) else (some (wrap64 (Int.tdiv (wrap64 ((wrap64 (t207 - t205)) * 65536)) (wrap64 (t206 - t205)))))))) = some r := H
 have A6 := Aside0.mk A60
 clear A60
 by_cases c7 : t207 ≤ t205
 ·rw [if_pos c7] at H
  have c7b0 : decide (t207 ≤ t205) = true := decide_eq_true c7
  clear c7
  obtain rfl := Option.some.inj H
  go_enter Try.func24, Try.ntmps24
  go_wp2_with (first | ((with_reducible refine gate_callee (f := 40) rfl ?_); refine goesL_ (some 8) rfl rfl Try.func40 (by kernel_rfl) rfl #[.int .i64 a0] rfl (by (try simp only [List.map_toArray, List.map_cons, List.map_nil]); first | done | rfl | (simp only [List.length_drop, List.length_take]; rfl)) ?_; (with_reducible refine (mutoscoperef1_Hold.calls a0 t205 _ A4.out).mono ?_); rintro e w' ⟨rfl, ⟨nd, rfl⟩⟩; refine ⟨_, rfl, ?_⟩) | ((with_reducible refine gate_callee (f := 40) rfl ?_); refine goesL_ (some 10) rfl rfl Try.func40 (by kernel_rfl) rfl #[.int .i64 a1] rfl (by (try simp only [List.map_toArray, List.map_cons, List.map_nil]); first | done | rfl | (simp only [List.length_drop, List.length_take]; rfl)) ?_; (with_reducible refine (mutoscoperef1_Hold.calls a1 t206 _ A5.out).mono ?_); rintro e w' ⟨rfl, ⟨nd, rfl⟩⟩; refine ⟨_, rfl, ?_⟩) | ((with_reducible refine gate_callee (f := 40) rfl ?_); refine goesL_ (some 12) rfl rfl Try.func40 (by kernel_rfl) rfl #[.int .i64 a2] rfl (by (try simp only [List.map_toArray, List.map_cons, List.map_nil]); first | done | rfl | (simp only [List.length_drop, List.length_take]; rfl)) ?_; (with_reducible refine (mutoscoperef1_Hold.calls a2 t207 _ A6.out).mono ?_); rintro e w' ⟨rfl, ⟨nd, rfl⟩⟩; refine ⟨_, rfl, ?_⟩))
  go_ret
  exact ⟨by first | rfl | (simp; done) | (simp [*]; done), by repeat (first | exact Drawn0.refl _ | apply Drawn0.step)⟩
 ·rw [if_neg c7] at H
  have c7b0 : decide (t207 ≤ t205) = false := decide_eq_false c7
  clear c7
  by_cases c8 : t207 ≥ t206
  ·rw [if_pos c8] at H
   have c8b0 : decide (t206 ≤ t207) = true := decide_eq_true c8
   clear c8
   obtain rfl := Option.some.inj H
   go_enter Try.func24, Try.ntmps24
   go_wp2_with (first | ((with_reducible refine gate_callee (f := 40) rfl ?_); refine goesL_ (some 8) rfl rfl Try.func40 (by kernel_rfl) rfl #[.int .i64 a0] rfl (by (try simp only [List.map_toArray, List.map_cons, List.map_nil]); first | done | rfl | (simp only [List.length_drop, List.length_take]; rfl)) ?_; (with_reducible refine (mutoscoperef1_Hold.calls a0 t205 _ A4.out).mono ?_); rintro e w' ⟨rfl, ⟨nd, rfl⟩⟩; refine ⟨_, rfl, ?_⟩) | ((with_reducible refine gate_callee (f := 40) rfl ?_); refine goesL_ (some 10) rfl rfl Try.func40 (by kernel_rfl) rfl #[.int .i64 a1] rfl (by (try simp only [List.map_toArray, List.map_cons, List.map_nil]); first | done | rfl | (simp only [List.length_drop, List.length_take]; rfl)) ?_; (with_reducible refine (mutoscoperef1_Hold.calls a1 t206 _ A5.out).mono ?_); rintro e w' ⟨rfl, ⟨nd, rfl⟩⟩; refine ⟨_, rfl, ?_⟩) | ((with_reducible refine gate_callee (f := 40) rfl ?_); refine goesL_ (some 12) rfl rfl Try.func40 (by kernel_rfl) rfl #[.int .i64 a2] rfl (by (try simp only [List.map_toArray, List.map_cons, List.map_nil]); first | done | rfl | (simp only [List.length_drop, List.length_take]; rfl)) ?_; (with_reducible refine (mutoscoperef1_Hold.calls a2 t207 _ A6.out).mono ?_); rintro e w' ⟨rfl, ⟨nd, rfl⟩⟩; refine ⟨_, rfl, ?_⟩))
   go_ret
   exact ⟨by first | rfl | (simp; done) | (simp [*]; done), by repeat (first | exact Drawn0.refl _ | apply Drawn0.step)⟩
  ·rw [if_neg c8] at H
   have c8b0 : decide (t206 ≤ t207) = false := decide_eq_false c8
   clear c8
   by_cases c9 : (wrap64 (t206 - t205)) = 0
   ·rw [if_pos c9] at H
    exact absurd H (by simp)
   ·rw [if_neg c9] at H
    have c9b0 : ((wrap64 (t206 - t205)) == 0) = false := beq_eq_false_iff_ne.mpr c9
    have c9b1 : ((wrap64 (t206 - t205)) != 0) = true := bne_iff_ne.mpr c9
    obtain rfl := Option.some.inj H
    go_enter Try.func24, Try.ntmps24
    go_wp2_with (first | ((with_reducible refine gate_callee (f := 40) rfl ?_); refine goesL_ (some 8) rfl rfl Try.func40 (by kernel_rfl) rfl #[.int .i64 a0] rfl (by (try simp only [List.map_toArray, List.map_cons, List.map_nil]); first | done | rfl | (simp only [List.length_drop, List.length_take]; rfl)) ?_; (with_reducible refine (mutoscoperef1_Hold.calls a0 t205 _ A4.out).mono ?_); rintro e w' ⟨rfl, ⟨nd, rfl⟩⟩; refine ⟨_, rfl, ?_⟩) | ((with_reducible refine gate_callee (f := 40) rfl ?_); refine goesL_ (some 10) rfl rfl Try.func40 (by kernel_rfl) rfl #[.int .i64 a1] rfl (by (try simp only [List.map_toArray, List.map_cons, List.map_nil]); first | done | rfl | (simp only [List.length_drop, List.length_take]; rfl)) ?_; (with_reducible refine (mutoscoperef1_Hold.calls a1 t206 _ A5.out).mono ?_); rintro e w' ⟨rfl, ⟨nd, rfl⟩⟩; refine ⟨_, rfl, ?_⟩) | ((with_reducible refine gate_callee (f := 40) rfl ?_); refine goesL_ (some 12) rfl rfl Try.func40 (by kernel_rfl) rfl #[.int .i64 a2] rfl (by (try simp only [List.map_toArray, List.map_cons, List.map_nil]); first | done | rfl | (simp only [List.length_drop, List.length_take]; rfl)) ?_; (with_reducible refine (mutoscoperef1_Hold.calls a2 t207 _ A6.out).mono ?_); rintro e w' ⟨rfl, ⟨nd, rfl⟩⟩; refine ⟨_, rfl, ?_⟩))
    go_ret
    exact ⟨by first | rfl | (simp; done) | (simp [*]; done), by repeat (first | exact Drawn0.refl _ | apply Drawn0.step)⟩
end Go.Proofs.Ytejnbjclcdmopaa.PA
end

section
namespace Go.Proofs.Ytejnbjclcdmopaa.PA
open Go.RowKit Go.Proofs.YtejnbjclcdmopaaW.PrintWords Go.Proofs.YtejnbjclcdmopaaW.PrintLast Go.Proofs.YtejnbjclcdmopaaW.PrintMore
attribute [local go_sem] max2_int min2_int max_two min_two max_three min_three max_four min_four
attribute [local go_sem] Go.Proofs.Ytejnbjclcdmopaa.MS.isSome_setCell
set_option linter.unusedVariables false
set_option linter.unusedSimpArgs false
def mutoscoperef5_At.f (k : Nat) (l0 : List (S34)) (a1 : Int) (a2 : Int) : Option (Int) := if (l0.length : Int) = 0 then (some a2) else ((mutoscoperef5_Find.f k l0 a1).bind fun t431 => (if t431 < 0 then (if 0 < (l0.length : Int) then (some ((rd_T34 l0 0).f1)) else (none)) else (if t431 = (wrap64 ((l0.length : Int) - 1)) then (if 0 ≤ t431 then (if t431 < (l0.length : Int) then (some ((rd_T34 l0 t431).f1)) else (none)) else (none)) else (if 0 ≤ t431 then (if t431 < (l0.length : Int) then (if 0 ≤ (wrap64 (t431 + 1)) then (if (wrap64 (t431 + 1)) < (l0.length : Int) then ((mutoscoperef5_Part.f ((rd_T34 l0 t431).f0) ((rd_T34 l0 (wrap64 (t431 + 1))).f0) a1).bind fun t440 => ((mutoscoperef5_Goes.f k ((rd_T34 l0 t431).f2) ((rd_T34 l0 t431).f3.f0) ((rd_T34 l0 t431).f3.f1) ((rd_T34 l0 t431).f3.f2) ((rd_T34 l0 t431).f3.f3) t440).bind fun t441 => ((mutoscoperef1_Mid.f k ((rd_T34 l0 t431).f1) ((rd_T34 l0 (wrap64 (t431 + 1))).f1) t441).bind fun t442 => (some t442)))) else (none)) else (none)) else (none)) else (none)))))
def mutoscoperef5_At.T8 : Bool × List (List Nat × List Nat) := (true, [([], []), ([], []), ([0, 1], [0, 1]), ([2], [2]), ([3], [3]), ([], []), ([], []), ([6], [6]), ([5, 7], [5, 7]), ([8], [8]), ([9], [9]), ([], []), ([], []), ([11, 12], [11, 12]), ([13], [13]), ([14], [14]), ([], []), ([], []), ([16, 17], [16, 17]), ([18], [18]), ([19], [19]), ([], []), ([], []), ([21, 22], [21, 22]), ([23], [23]), ([24], [24]), ([], []), ([], []), ([27], [27]), ([26, 28], [26, 28]), ([29], [29]), ([30], [30]), ([], []), ([25, 31, 32], [25, 31, 32]), ([15, 20, 33, 33], [15, 20, 33]), ([4, 10, 34, 34], [4, 10, 34]), ([35, 35, 0, 1, 2, 3, 4, 5, 6, 7, 8, 9, 10, 11, 12, 13, 14, 15, 16, 17, 18, 19, 20, 21, 22, 23, 24, 25, 26, 27, 28, 29, 30, 31, 32, 33, 34, 35], [35])])
def mutoscoperef5_At.B8 : List Nat := [0, 0, 3, 7, 15, 0, 0, 64, 224, 480, 992, 0, 0, 6144, 14336, 30720, 0, 0, 196608, 458752, 983040, 0, 0, 6291456, 14680064, 31457280, 0, 0, 134217728, 469762048, 1006632960, 2080374784, 0, 8587837440, 17179867136, 34359738367, 68719476735]
theorem mutoscoperef5_At.tab8 : rtab .any (opsOf Try.f43 8) = mutoscoperef5_At.T8 := by kernel_rfl
theorem mutoscoperef5_At.bits8 : waitsOk mutoscoperef5_At.T8.2 mutoscoperef5_At.B8 = true := by kernel_rfl
set_option maxHeartbeats 8000000 in
set_option maxRecDepth 100000 in
theorem mutoscoperef5_At.calls (k : Nat) (A0 : Option Addr) (c0 : Nat) (l0 : List (S34)) (a1 : Int) (a2 : Int) (r : Int) (w : World) (hr0 : Kd.C k34 w A0 l0.length l0) (hc0 : l0.length ≤ c0) (h : mutoscoperef5_At.f k l0 a1 a2 = some r) :
  Calls Try.prog 43 #[.slice A0 l0.length c0, .int .i64 a1, .int .i64 a2] w fun e w' => e = .returned (.int .i64 r) ∧ Below w.heap.size w w' := by
 have hu23 := Try.underlying23
 have HR0 := Aside0.mk hr0
 have HC0 := Aside0.mk hc0
 clear hr0 hc0
 have HB := Aside0.mk (Below.refl w.heap.size w)
 have H : (if (l0.length : Int) = 0 then (some a2) else ((mutoscoperef5_Find.f k l0 a1).bind fun t431 => (if t431 < 0 then (if 0 < (l0.length : Int) then (some ((rd_T34 l0 0).f1)) else (none)) else (if t431 = (wrap64 ((l0.length : Int) - 1)) then (if 0 ≤ t431 then (if t431 < (l0.length : Int) then (some ((rd_T34 l0 t431).f1)) else (none)) else (none)) else (if 0 ≤ t431 then (if t431 < (l0.length : Int) then (if 0 ≤ (wrap64 (t431 + 1)) then (if (wrap64 (t431 + 1)) < (l0.length : Int) then ((mutoscoperef5_Part.f ((rd_T34 l0 t431).f0) ((rd_T34 l0 (wrap64 (t431 + 1))).f0) a1).bind fun t440 => ((mutoscoperef5_Goes.f k ((rd_T34 l0 t431).f2) ((rd_T34 l0 t431).f3.f0) ((rd_T34 l0 t431).f3.f1) ((rd_T34 l0 t431).f3.f2) ((rd_T34 l0 t431).f3.f3) t440).bind fun t441 => ((mutoscoperef1_Mid.f k ((rd_T34 l0 t431).f1) ((rd_T34 l0 (wrap64 (t431 + 1))).f1) t441).bind fun t442 => (some t442)))) else (none)) else (none)) else (none)) else (none)))))) = some r := h
 clear h
 by_cases c4 : (l0.length : Int) = 0
 ·rw [if_pos c4] at H
  have c4b0 : ((l0.length : Int) == 0) = true := beq_iff_eq.mpr c4
  have c4b1 : ((l0.length : Int) != 0) = false := bne_eq_false_iff_eq.mpr c4
  clear c4
  obtain rfl := Option.some.inj H
  go_enter Try.func43, Try.ntmps43
  go_wp2
  go_ret
  exact ⟨by first | rfl | (simp [errW_none, errW_some] <;> rfl) | (simp [*, errW_none, errW_some] <;> rfl), by repeat (first | (with_reducible first | exact HB.out | apply below_alloc | apply pw_below_drewN | apply below_drew1) | exact HB.out)⟩
 ·rw [if_neg c4] at H
  have c4b0 : ((l0.length : Int) == 0) = false := beq_eq_false_iff_ne.mpr c4
  have c4b1 : ((l0.length : Int) != 0) = true := bne_iff_ne.mpr c4
  have c4b2 : ¬ (l0 = []) := fun h_ => c4 (by rw [h_]; rfl)
  replace H := Option.bind_eq_some_iff.mp H
  obtain ⟨t431, A50, H⟩ := H
  replace H : (if t431 < 0 then (if 0 < (l0.length : Int) then (some ((rd_T34 l0 0).f1)) else (none)) else (if t431 = (wrap64 ((l0.length : Int) - 1)) then (if 0 ≤ t431 then (if t431 < (l0.length : Int) then (some ((rd_T34 l0 t431).f1)) else (none)) else (none)) else (if 0 ≤ t431 then (if t431 < (l0.length : Int) then (if 0 ≤ (wrap64 (t431 + 1)) then (if (wrap64 (t431 + 1)) < (l0.length : Int) then ((mutoscoperef5_Part.f ((rd_T34 l0 t431).f0) ((rd_T34 l0 (wrap64 (t431 + 1))).f0) a1).bind fun t440 => ((mutoscoperef5_Goes.f k ((rd_T34 l0 t431).f2) ((rd_T34 l0 t431).f3.f0) ((rd_T34 l0 t431).f3.f1) ((rd_T34 l0 t431).f3.f2) ((rd_T34 l0 t431).f3.f3) t440).bind fun t441 => ((mutoscoperef1_Mid.f k ((rd_T34 l0 t431).f1) ((rd_T34 l0 (wrap64 (t431 + 1))).f1) t441).bind fun t442 => (some t442)))) else (none)) else (none)) else (none)) else (none)))) = some r := H
  have A5 := Aside0.mk A50
  clear A50
  by_cases c6 : t431 < 0
  ·rw [if_pos c6] at H
   have c6b0 : decide (t431 < 0) = true := decide_eq_true c6
   clear c6
   by_cases c7 : 0 < (l0.length : Int)
   ·rw [if_pos c7] at H
    have c7b0 : decide (0 < (l0.length : Int)) = true := decide_eq_true c7
    have c7b1 : decide (0 < l0.length) = true := decide_eq_true (by omega)
    clear c7
    obtain rfl := Option.some.inj H
    go_enter Try.func43, Try.ntmps43
    go_wp2_with (first | ((with_reducible refine gate_callee (f := 42) rfl ?_); refine goesL_ (some 14) rfl rfl Try.func42 (by kernel_rfl) rfl #[.slice A0 l0.length c0, .int .i64 a1] rfl (by (try simp only [List.map_toArray, List.map_cons, List.map_nil]); first | done | rfl | (simp only [List.length_drop, List.length_take]; rfl)) ?_; (with_reducible refine (mutoscoperef5_Find.calls k _ _ l0 a1 t431 _ ?side1 ?side2 A5.out).mono ?_); (case side1 => repeat (first | exact HR0.out | (with_reducible refine Kd.C_alloc ?_ _) | (with_reducible refine Kd.C_drewN ?_ _) | (with_reducible refine Kd.C_drew ?_))); (case side2 => exact HC0.out); rintro e w' ⟨rfl, ⟨nd, rfl⟩⟩; refine ⟨_, rfl, ?_⟩; have p432 : 0 ≤ (0 : Int) := (by omega); have q432 : 0 < (l0.length : Int) := of_decide_eq_true (by first | (with_reducible assumption) | assumption); obtain ⟨ad432, e432, hx432_0, hx432_1, hx432_2, hx432_3, hx432_4, hx432_5, hx432_6⟩ := at_T34 HR0.out 0 p432 q432; cases e432; have qi432 : (0 < l0.length) = True := eq_true (by omega); (try rw [show ((0 : Int)).toNat = 0 from rfl] at hx432_0); (try rw [show 0 * 7 = 0 from rfl] at hx432_0); (try rw [Addr.add_zero'] at hx432_0); (try rw [show ((0 : Int)).toNat = 0 from rfl] at hx432_1); (try rw [show 0 * 7 = 0 from rfl] at hx432_1); (try rw [Addr.add_zero'] at hx432_1); (try rw [show ((0 : Int)).toNat = 0 from rfl] at hx432_2); (try rw [show 0 * 7 = 0 from rfl] at hx432_2); (try rw [Addr.add_zero'] at hx432_2); (try rw [show ((0 : Int)).toNat = 0 from rfl] at hx432_3); (try rw [show 0 * 7 = 0 from rfl] at hx432_3); (try rw [Addr.add_zero'] at hx432_3); (try rw [show ((0 : Int)).toNat = 0 from rfl] at hx432_4); (try rw [show 0 * 7 = 0 from rfl] at hx432_4); (try rw [Addr.add_zero'] at hx432_4); (try rw [show ((0 : Int)).toNat = 0 from rfl] at hx432_5); (try rw [show 0 * 7 = 0 from rfl] at hx432_5); (try rw [Addr.add_zero'] at hx432_5); (try rw [show ((0 : Int)).toNat = 0 from rfl] at hx432_6); (try rw [show 0 * 7 = 0 from rfl] at hx432_6); (try rw [Addr.add_zero'] at hx432_6); replace p432 := eq_true p432; replace q432 := eq_true q432))
    go_ret
    exact ⟨by first | rfl | (simp [errW_none, errW_some] <;> rfl) | (simp [*, errW_none, errW_some] <;> rfl), by repeat (first | (with_reducible first | exact HB.out | apply below_alloc | apply pw_below_drewN | apply below_drew1) | exact HB.out)⟩
   ·rw [if_neg c7] at H
    exact absurd H (by simp)
  ·rw [if_neg c6] at H
   have c6b0 : decide (t431 < 0) = false := decide_eq_false c6
   clear c6
   by_cases c8 : t431 = (wrap64 ((l0.length : Int) - 1))
   ·rw [if_pos c8] at H
    have c8b0 : (t431 == (wrap64 ((l0.length : Int) - 1))) = true := beq_iff_eq.mpr c8
    have c8b1 : (t431 != (wrap64 ((l0.length : Int) - 1))) = false := bne_eq_false_iff_eq.mpr c8
    clear c8
    by_cases c9 : 0 ≤ t431
    ·rw [if_pos c9] at H
     have c9b0 : decide (0 ≤ t431) = true := decide_eq_true c9
     clear c9
     by_cases c10 : t431 < (l0.length : Int)
     ·rw [if_pos c10] at H
      have c10b0 : decide (t431 < (l0.length : Int)) = true := decide_eq_true c10
      clear c10
      obtain rfl := Option.some.inj H
      go_enter Try.func43, Try.ntmps43
      go_wp2_with (first | ((with_reducible refine gate_callee (f := 42) rfl ?_); refine goesL_ (some 14) rfl rfl Try.func42 (by kernel_rfl) rfl #[.slice A0 l0.length c0, .int .i64 a1] rfl (by (try simp only [List.map_toArray, List.map_cons, List.map_nil]); first | done | rfl | (simp only [List.length_drop, List.length_take]; rfl)) ?_; (with_reducible refine (mutoscoperef5_Find.calls k _ _ l0 a1 t431 _ ?side1 ?side2 A5.out).mono ?_); (case side1 => repeat (first | exact HR0.out | (with_reducible refine Kd.C_alloc ?_ _) | (with_reducible refine Kd.C_drewN ?_ _) | (with_reducible refine Kd.C_drew ?_))); (case side2 => exact HC0.out); rintro e w' ⟨rfl, ⟨nd, rfl⟩⟩; refine ⟨_, rfl, ?_⟩; have p433 : 0 ≤ (t431 : Int) := of_decide_eq_true (by first | (with_reducible assumption) | assumption); have q433 : t431 < (l0.length : Int) := of_decide_eq_true (by first | (with_reducible assumption) | assumption); obtain ⟨ad433, e433, hx433_0, hx433_1, hx433_2, hx433_3, hx433_4, hx433_5, hx433_6⟩ := at_T34 HR0.out t431 p433 q433; cases e433; replace p433 := eq_true p433; replace q433 := eq_true q433))
      go_ret
      exact ⟨by first | rfl | (simp [errW_none, errW_some] <;> rfl) | (simp [*, errW_none, errW_some] <;> rfl), by repeat (first | (with_reducible first | exact HB.out | apply below_alloc | apply pw_below_drewN | apply below_drew1) | exact HB.out)⟩
     ·rw [if_neg c10] at H
      exact absurd H (by simp)
    ·rw [if_neg c9] at H
     exact absurd H (by simp)
   ·rw [if_neg c8] at H
    have c8b0 : (t431 == (wrap64 ((l0.length : Int) - 1))) = false := beq_eq_false_iff_ne.mpr c8
    have c8b1 : (t431 != (wrap64 ((l0.length : Int) - 1))) = true := bne_iff_ne.mpr c8
    by_cases c11 : 0 ≤ t431
    ·rw [if_pos c11] at H
     have c11b0 : decide (0 ≤ t431) = true := decide_eq_true c11
     clear c11
     by_cases c12 : t431 < (l0.length : Int)
     ·rw [if_pos c12] at H
      have c12b0 : decide (t431 < (l0.length : Int)) = true := decide_eq_true c12
      clear c12
      obtain ⟨ji13, hji13⟩ : ∃ j_ : Int, (wrap64 (t431 + 1)) = j_ := ⟨_, rfl⟩
      replace H : (if 0 ≤ (ji13) then (if (ji13) < (l0.length : Int) then ((mutoscoperef5_Part.f ((rd_T34 l0 t431).f0) ((rd_T34 l0 (ji13)).f0) a1).bind fun t440 => ((mutoscoperef5_Goes.f k ((rd_T34 l0 t431).f2) ((rd_T34 l0 t431).f3.f0) ((rd_T34 l0 t431).f3.f1) ((rd_T34 l0 t431).f3.f2) ((rd_T34 l0 t431).f3.f3) t440).bind fun t441 => ((mutoscoperef1_Mid.f k ((rd_T34 l0 t431).f1) ((rd_T34 l0 (ji13)).f1) t441).bind fun t442 => (some t442)))) else (none)) else (none)) = some r := by first | (rw [hji13] at H; exact H) | (simp only [hji13] at H ⊢; exact H)
      (try rw [hji13] at A5)
      have hji13w : (IntKind.i64.wrap (t431 + 1)) = ji13 := (i64_w _).trans hji13
      by_cases c14 : 0 ≤ (ji13)
      ·rw [if_pos c14] at H
       have c14b0 : decide (0 ≤ (ji13)) = true := decide_eq_true c14
       clear c14
       by_cases c15 : (ji13) < (l0.length : Int)
       ·rw [if_pos c15] at H
        have c15b0 : decide ((ji13) < (l0.length : Int)) = true := decide_eq_true c15
        clear c15
        replace H := Option.bind_eq_some_iff.mp H
        obtain ⟨t440, A160, H⟩ := H
        replace H : ((mutoscoperef5_Goes.f k ((rd_T34 l0 t431).f2) ((rd_T34 l0 t431).f3.f0) ((rd_T34 l0 t431).f3.f1) ((rd_T34 l0 t431).f3.f2) ((rd_T34 l0 t431).f3.f3) t440).bind fun t441 => ((mutoscoperef1_Mid.f k ((rd_T34 l0 t431).f1) ((rd_T34 l0 (ji13)).f1) t441).bind fun t442 => (some t442))) = some r := H
        have A16 := Aside0.mk A160
        clear A160
        replace H := Option.bind_eq_some_iff.mp H
        obtain ⟨t441, A170, H⟩ := H
        replace H : ((mutoscoperef1_Mid.f k ((rd_T34 l0 t431).f1) ((rd_T34 l0 (ji13)).f1) t441).bind fun t442 => (some t442)) = some r := H
        have A17 := Aside0.mk A170
        clear A170
        replace H := Option.bind_eq_some_iff.mp H
        obtain ⟨t442, A180, H⟩ := H
        replace H : (some t442) = some r := H
        have A18 := Aside0.mk A180
        clear A180
        obtain rfl := Option.some.inj H
        go_enter Try.func43, Try.ntmps43
        try go_wp2_with (first | ((with_reducible refine gate_callee (f := 42) rfl ?_); refine goesL_ (some 14) rfl rfl Try.func42 (by kernel_rfl) rfl #[.slice A0 l0.length c0, .int .i64 a1] rfl (by (try simp only [List.map_toArray, List.map_cons, List.map_nil]); first | done | rfl | (simp only [List.length_drop, List.length_take]; rfl)) ?_; (with_reducible refine (mutoscoperef5_Find.calls k _ _ l0 a1 t431 _ ?side1 ?side2 A5.out).mono ?_); (case side1 => repeat (first | exact HR0.out | (with_reducible refine Kd.C_alloc ?_ _) | (with_reducible refine Kd.C_drewN ?_ _) | (with_reducible refine Kd.C_drew ?_))); (case side2 => exact HC0.out); rintro e w' ⟨rfl, ⟨nd, rfl⟩⟩; refine ⟨_, rfl, ?_⟩))
        rw [drewN_self w]; generalize hq_ : World.drewN w _ = w19; have n0_ := Aside0.mk (below_at hq_ HB.out); clear hq_ HB; have HB := n0_; clear n0_
        have n0_ := Aside0.mk (below_drew1 HB.out)
        clear HB
        have HB := n0_
        clear n0_
        have p434 : 0 ≤ (t431 : Int) := of_decide_eq_true (by first | (with_reducible assumption) | assumption)
        have q434 : t431 < (l0.length : Int) := of_decide_eq_true (by first | (with_reducible assumption) | assumption)
        obtain ⟨ad434, e434, hx434_0, hx434_1, hx434_2, hx434_3, hx434_4, hx434_5, hx434_6⟩ := at_T34 HR0.out t431 p434 q434
        have hw434_6 := hx434_6
        have hw434_5 := hx434_5
        have hw434_4 := hx434_4
        have hw434_3 := hx434_3
        have hw434_2 := hx434_2
        have hw434_1 := hx434_1
        have hw434_0 := hx434_0
        cases e434
        replace hx434_0 := (HB.out.cell (World.block_lt_of_cell? w _ hx434_0)).trans hx434_0
        replace hx434_1 := (HB.out.cell (World.block_lt_of_cell? w _ hx434_1)).trans hx434_1
        replace hx434_2 := (HB.out.cell (World.block_lt_of_cell? w _ hx434_2)).trans hx434_2
        replace hx434_3 := (HB.out.cell (World.block_lt_of_cell? w _ hx434_3)).trans hx434_3
        replace hx434_4 := (HB.out.cell (World.block_lt_of_cell? w _ hx434_4)).trans hx434_4
        replace hx434_5 := (HB.out.cell (World.block_lt_of_cell? w _ hx434_5)).trans hx434_5
        replace hx434_6 := (HB.out.cell (World.block_lt_of_cell? w _ hx434_6)).trans hx434_6
        replace p434 := eq_true p434
        replace q434 := eq_true q434
        have p435 : 0 ≤ ((ji13) : Int) := of_decide_eq_true (by first | (with_reducible assumption) | assumption)
        have q435 : (ji13) < (l0.length : Int) := of_decide_eq_true (by first | (with_reducible assumption) | assumption)
        obtain ⟨ad435, e435, hx435_0, hx435_1, hx435_2, hx435_3, hx435_4, hx435_5, hx435_6⟩ := at_T34 HR0.out (ji13) p435 q435
        have hw435_6 := hx435_6
        have hw435_5 := hx435_5
        have hw435_4 := hx435_4
        have hw435_3 := hx435_3
        have hw435_2 := hx435_2
        have hw435_1 := hx435_1
        have hw435_0 := hx435_0
        obtain rfl : ad434 = ad435 := (by injection e435)
        replace hx435_0 := (HB.out.cell (World.block_lt_of_cell? w _ hx435_0)).trans hx435_0
        replace hx435_1 := (HB.out.cell (World.block_lt_of_cell? w _ hx435_1)).trans hx435_1
        replace hx435_2 := (HB.out.cell (World.block_lt_of_cell? w _ hx435_2)).trans hx435_2
        replace hx435_3 := (HB.out.cell (World.block_lt_of_cell? w _ hx435_3)).trans hx435_3
        replace hx435_4 := (HB.out.cell (World.block_lt_of_cell? w _ hx435_4)).trans hx435_4
        replace hx435_5 := (HB.out.cell (World.block_lt_of_cell? w _ hx435_5)).trans hx435_5
        replace hx435_6 := (HB.out.cell (World.block_lt_of_cell? w _ hx435_6)).trans hx435_6
        replace p435 := eq_true p435
        replace q435 := eq_true q435
        have p436 : 0 ≤ (t431 : Int) := of_decide_eq_true (by first | (with_reducible assumption) | assumption)
        have q436 : t431 < (l0.length : Int) := of_decide_eq_true (by first | (with_reducible assumption) | assumption)
        obtain ⟨ad436, e436, hx436_0, hx436_1, hx436_2, hx436_3, hx436_4, hx436_5, hx436_6⟩ := at_T34 HR0.out t431 p436 q436
        have hw436_6 := hx436_6
        have hw436_5 := hx436_5
        have hw436_4 := hx436_4
        have hw436_3 := hx436_3
        have hw436_2 := hx436_2
        have hw436_1 := hx436_1
        have hw436_0 := hx436_0
        obtain rfl : ad434 = ad436 := (by injection e436)
        replace hx436_0 := (HB.out.cell (World.block_lt_of_cell? w _ hx436_0)).trans hx436_0
        replace hx436_1 := (HB.out.cell (World.block_lt_of_cell? w _ hx436_1)).trans hx436_1
        replace hx436_2 := (HB.out.cell (World.block_lt_of_cell? w _ hx436_2)).trans hx436_2
        replace hx436_3 := (HB.out.cell (World.block_lt_of_cell? w _ hx436_3)).trans hx436_3
        replace hx436_4 := (HB.out.cell (World.block_lt_of_cell? w _ hx436_4)).trans hx436_4
        replace hx436_5 := (HB.out.cell (World.block_lt_of_cell? w _ hx436_5)).trans hx436_5
        replace hx436_6 := (HB.out.cell (World.block_lt_of_cell? w _ hx436_6)).trans hx436_6
        replace p436 := eq_true p436
        replace q436 := eq_true q436
        have p437 : 0 ≤ (t431 : Int) := of_decide_eq_true (by first | (with_reducible assumption) | assumption)
        have q437 : t431 < (l0.length : Int) := of_decide_eq_true (by first | (with_reducible assumption) | assumption)
        obtain ⟨ad437, e437, hx437_0, hx437_1, hx437_2, hx437_3, hx437_4, hx437_5, hx437_6⟩ := at_T34 HR0.out t431 p437 q437
        have hw437_6 := hx437_6
        have hw437_5 := hx437_5
        have hw437_4 := hx437_4
        have hw437_3 := hx437_3
        have hw437_2 := hx437_2
        have hw437_1 := hx437_1
        have hw437_0 := hx437_0
        obtain rfl : ad434 = ad437 := (by injection e437)
        replace hx437_0 := (HB.out.cell (World.block_lt_of_cell? w _ hx437_0)).trans hx437_0
        replace hx437_1 := (HB.out.cell (World.block_lt_of_cell? w _ hx437_1)).trans hx437_1
        replace hx437_2 := (HB.out.cell (World.block_lt_of_cell? w _ hx437_2)).trans hx437_2
        replace hx437_3 := (HB.out.cell (World.block_lt_of_cell? w _ hx437_3)).trans hx437_3
        replace hx437_4 := (HB.out.cell (World.block_lt_of_cell? w _ hx437_4)).trans hx437_4
        replace hx437_5 := (HB.out.cell (World.block_lt_of_cell? w _ hx437_5)).trans hx437_5
        replace hx437_6 := (HB.out.cell (World.block_lt_of_cell? w _ hx437_6)).trans hx437_6
        replace p437 := eq_true p437
        replace q437 := eq_true q437
        have p438 : 0 ≤ (t431 : Int) := of_decide_eq_true (by first | (with_reducible assumption) | assumption)
        have q438 : t431 < (l0.length : Int) := of_decide_eq_true (by first | (with_reducible assumption) | assumption)
        obtain ⟨ad438, e438, hx438_0, hx438_1, hx438_2, hx438_3, hx438_4, hx438_5, hx438_6⟩ := at_T34 HR0.out t431 p438 q438
        have hw438_6 := hx438_6
        have hw438_5 := hx438_5
        have hw438_4 := hx438_4
        have hw438_3 := hx438_3
        have hw438_2 := hx438_2
        have hw438_1 := hx438_1
        have hw438_0 := hx438_0
        obtain rfl : ad434 = ad438 := (by injection e438)
        replace hx438_0 := (HB.out.cell (World.block_lt_of_cell? w _ hx438_0)).trans hx438_0
        replace hx438_1 := (HB.out.cell (World.block_lt_of_cell? w _ hx438_1)).trans hx438_1
        replace hx438_2 := (HB.out.cell (World.block_lt_of_cell? w _ hx438_2)).trans hx438_2
        replace hx438_3 := (HB.out.cell (World.block_lt_of_cell? w _ hx438_3)).trans hx438_3
        replace hx438_4 := (HB.out.cell (World.block_lt_of_cell? w _ hx438_4)).trans hx438_4
        replace hx438_5 := (HB.out.cell (World.block_lt_of_cell? w _ hx438_5)).trans hx438_5
        replace hx438_6 := (HB.out.cell (World.block_lt_of_cell? w _ hx438_6)).trans hx438_6
        replace p438 := eq_true p438
        replace q438 := eq_true q438
        have p439 : 0 ≤ ((ji13) : Int) := of_decide_eq_true (by first | (with_reducible assumption) | assumption)
        have q439 : (ji13) < (l0.length : Int) := of_decide_eq_true (by first | (with_reducible assumption) | assumption)
        obtain ⟨ad439, e439, hx439_0, hx439_1, hx439_2, hx439_3, hx439_4, hx439_5, hx439_6⟩ := at_T34 HR0.out (ji13) p439 q439
        have hw439_6 := hx439_6
        have hw439_5 := hx439_5
        have hw439_4 := hx439_4
        have hw439_3 := hx439_3
        have hw439_2 := hx439_2
        have hw439_1 := hx439_1
        have hw439_0 := hx439_0
        obtain rfl : ad434 = ad439 := (by injection e439)
        replace hx439_0 := (HB.out.cell (World.block_lt_of_cell? w _ hx439_0)).trans hx439_0
        replace hx439_1 := (HB.out.cell (World.block_lt_of_cell? w _ hx439_1)).trans hx439_1
        replace hx439_2 := (HB.out.cell (World.block_lt_of_cell? w _ hx439_2)).trans hx439_2
        replace hx439_3 := (HB.out.cell (World.block_lt_of_cell? w _ hx439_3)).trans hx439_3
        replace hx439_4 := (HB.out.cell (World.block_lt_of_cell? w _ hx439_4)).trans hx439_4
        replace hx439_5 := (HB.out.cell (World.block_lt_of_cell? w _ hx439_5)).trans hx439_5
        replace hx439_6 := (HB.out.cell (World.block_lt_of_cell? w _ hx439_6)).trans hx439_6
        replace p439 := eq_true p439
        replace q439 := eq_true q439
        refine start_ (n := 37) (S := fun w' => w'.cell? (ad434.add ((t431).toNat * 7)) = some (.int .i64 ((rd_T34 l0 t431).f0)) ∧ w'.cell? ⟨(ad434.add ((t431).toNat * 7)).block, (ad434.add ((t431).toNat * 7)).off + 1, none⟩ = some (.int .i64 ((rd_T34 l0 t431).f1)) ∧ w'.cell? ⟨(ad434.add ((t431).toNat * 7)).block, (ad434.add ((t431).toNat * 7)).off + 2, none⟩ = some (.int .i64 ((rd_T34 l0 t431).f2)) ∧ w'.cell? ⟨(ad434.add ((t431).toNat * 7)).block, (ad434.add ((t431).toNat * 7)).off + 3, none⟩ = some (.int .i64 ((rd_T34 l0 t431).f3.f0)) ∧ w'.cell? ⟨(ad434.add ((t431).toNat * 7)).block, (ad434.add ((t431).toNat * 7)).off + 4, none⟩ = some (.int .i64 ((rd_T34 l0 t431).f3.f1)) ∧ w'.cell? ⟨(ad434.add ((t431).toNat * 7)).block, (ad434.add ((t431).toNat * 7)).off + 5, none⟩ = some (.int .i64 ((rd_T34 l0 t431).f3.f2)) ∧ w'.cell? ⟨(ad434.add ((t431).toNat * 7)).block, (ad434.add ((t431).toNat * 7)).off + 6, none⟩ = some (.int .i64 ((rd_T34 l0 t431).f3.f3)) ∧ w'.cell? (ad434.add (((ji13)).toNat * 7)) = some (.int .i64 ((rd_T34 l0 (ji13)).f0)) ∧ w'.cell? ⟨(ad434.add (((ji13)).toNat * 7)).block, (ad434.add (((ji13)).toNat * 7)).off + 1, none⟩ = some (.int .i64 ((rd_T34 l0 (ji13)).f1)) ∧ w'.cell? ⟨(ad434.add (((ji13)).toNat * 7)).block, (ad434.add (((ji13)).toNat * 7)).off + 2, none⟩ = some (.int .i64 ((rd_T34 l0 (ji13)).f2)) ∧ w'.cell? ⟨(ad434.add (((ji13)).toNat * 7)).block, (ad434.add (((ji13)).toNat * 7)).off + 3, none⟩ = some (.int .i64 ((rd_T34 l0 (ji13)).f3.f0)) ∧ w'.cell? ⟨(ad434.add (((ji13)).toNat * 7)).block, (ad434.add (((ji13)).toNat * 7)).off + 4, none⟩ = some (.int .i64 ((rd_T34 l0 (ji13)).f3.f1)) ∧ w'.cell? ⟨(ad434.add (((ji13)).toNat * 7)).block, (ad434.add (((ji13)).toNat * 7)).off + 5, none⟩ = some (.int .i64 ((rd_T34 l0 (ji13)).f3.f2)) ∧ w'.cell? ⟨(ad434.add (((ji13)).toNat * 7)).block, (ad434.add (((ji13)).toNat * 7)).off + 6, none⟩ = some (.int .i64 ((rd_T34 l0 (ji13)).f3.f3)) ∧ w'.cell? (ad434.add ((t431).toNat * 7)) = some (.int .i64 ((rd_T34 l0 t431).f0)) ∧ w'.cell? ⟨(ad434.add ((t431).toNat * 7)).block, (ad434.add ((t431).toNat * 7)).off + 1, none⟩ = some (.int .i64 ((rd_T34 l0 t431).f1)) ∧ w'.cell? ⟨(ad434.add ((t431).toNat * 7)).block, (ad434.add ((t431).toNat * 7)).off + 2, none⟩ = some (.int .i64 ((rd_T34 l0 t431).f2)) ∧ w'.cell? ⟨(ad434.add ((t431).toNat * 7)).block, (ad434.add ((t431).toNat * 7)).off + 3, none⟩ = some (.int .i64 ((rd_T34 l0 t431).f3.f0)) ∧ w'.cell? ⟨(ad434.add ((t431).toNat * 7)).block, (ad434.add ((t431).toNat * 7)).off + 4, none⟩ = some (.int .i64 ((rd_T34 l0 t431).f3.f1)) ∧ w'.cell? ⟨(ad434.add ((t431).toNat * 7)).block, (ad434.add ((t431).toNat * 7)).off + 5, none⟩ = some (.int .i64 ((rd_T34 l0 t431).f3.f2)) ∧ w'.cell? ⟨(ad434.add ((t431).toNat * 7)).block, (ad434.add ((t431).toNat * 7)).off + 6, none⟩ = some (.int .i64 ((rd_T34 l0 t431).f3.f3)) ∧ w'.cell? (ad434.add ((t431).toNat * 7)) = some (.int .i64 ((rd_T34 l0 t431).f0)) ∧ w'.cell? ⟨(ad434.add ((t431).toNat * 7)).block, (ad434.add ((t431).toNat * 7)).off + 1, none⟩ = some (.int .i64 ((rd_T34 l0 t431).f1)) ∧ w'.cell? ⟨(ad434.add ((t431).toNat * 7)).block, (ad434.add ((t431).toNat * 7)).off + 2, none⟩ = some (.int .i64 ((rd_T34 l0 t431).f2)) ∧ w'.cell? ⟨(ad434.add ((t431).toNat * 7)).block, (ad434.add ((t431).toNat * 7)).off + 3, none⟩ = some (.int .i64 ((rd_T34 l0 t431).f3.f0)) ∧ w'.cell? ⟨(ad434.add ((t431).toNat * 7)).block, (ad434.add ((t431).toNat * 7)).off + 4, none⟩ = some (.int .i64 ((rd_T34 l0 t431).f3.f1)) ∧ w'.cell? ⟨(ad434.add ((t431).toNat * 7)).block, (ad434.add ((t431).toNat * 7)).off + 5, none⟩ = some (.int .i64 ((rd_T34 l0 t431).f3.f2)) ∧ w'.cell? ⟨(ad434.add ((t431).toNat * 7)).block, (ad434.add ((t431).toNat * 7)).off + 6, none⟩ = some (.int .i64 ((rd_T34 l0 t431).f3.f3)) ∧ w'.cell? (ad434.add ((t431).toNat * 7)) = some (.int .i64 ((rd_T34 l0 t431).f0)) ∧ w'.cell? ⟨(ad434.add ((t431).toNat * 7)).block, (ad434.add ((t431).toNat * 7)).off + 1, none⟩ = some (.int .i64 ((rd_T34 l0 t431).f1)) ∧ w'.cell? ⟨(ad434.add ((t431).toNat * 7)).block, (ad434.add ((t431).toNat * 7)).off + 2, none⟩ = some (.int .i64 ((rd_T34 l0 t431).f2)) ∧ w'.cell? ⟨(ad434.add ((t431).toNat * 7)).block, (ad434.add ((t431).toNat * 7)).off + 3, none⟩ = some (.int .i64 ((rd_T34 l0 t431).f3.f0)) ∧ w'.cell? ⟨(ad434.add ((t431).toNat * 7)).block, (ad434.add ((t431).toNat * 7)).off + 4, none⟩ = some (.int .i64 ((rd_T34 l0 t431).f3.f1)) ∧ w'.cell? ⟨(ad434.add ((t431).toNat * 7)).block, (ad434.add ((t431).toNat * 7)).off + 5, none⟩ = some (.int .i64 ((rd_T34 l0 t431).f3.f2)) ∧ w'.cell? ⟨(ad434.add ((t431).toNat * 7)).block, (ad434.add ((t431).toNat * 7)).off + 6, none⟩ = some (.int .i64 ((rd_T34 l0 t431).f3.f3)) ∧ w'.cell? (ad434.add (((ji13)).toNat * 7)) = some (.int .i64 ((rd_T34 l0 (ji13)).f0)) ∧ w'.cell? ⟨(ad434.add (((ji13)).toNat * 7)).block, (ad434.add (((ji13)).toNat * 7)).off + 1, none⟩ = some (.int .i64 ((rd_T34 l0 (ji13)).f1)) ∧ w'.cell? ⟨(ad434.add (((ji13)).toNat * 7)).block, (ad434.add (((ji13)).toNat * 7)).off + 2, none⟩ = some (.int .i64 ((rd_T34 l0 (ji13)).f2)) ∧ w'.cell? ⟨(ad434.add (((ji13)).toNat * 7)).block, (ad434.add (((ji13)).toNat * 7)).off + 3, none⟩ = some (.int .i64 ((rd_T34 l0 (ji13)).f3.f0)) ∧ w'.cell? ⟨(ad434.add (((ji13)).toNat * 7)).block, (ad434.add (((ji13)).toNat * 7)).off + 4, none⟩ = some (.int .i64 ((rd_T34 l0 (ji13)).f3.f1)) ∧ w'.cell? ⟨(ad434.add (((ji13)).toNat * 7)).block, (ad434.add (((ji13)).toNat * 7)).off + 5, none⟩ = some (.int .i64 ((rd_T34 l0 (ji13)).f3.f2)) ∧ w'.cell? ⟨(ad434.add (((ji13)).toNat * 7)).block, (ad434.add (((ji13)).toNat * 7)).off + 6, none⟩ = some (.int .i64 ((rd_T34 l0 (ji13)).f3.f3))) (ds := []) #[false, false, false, false, false, false, false, false, false, false, false, false, false, false, false, false, false, false, false, false, false, false, false, false, false, false, false, false, false, false, false, false, false, false, false, false, false] (by kernel_rfl) rfl rfl ⟨((HB.out.cell (World.block_lt_of_cell? w _ hw434_0)).trans hw434_0), ((HB.out.cell (World.block_lt_of_cell? w _ hw434_1)).trans hw434_1), ((HB.out.cell (World.block_lt_of_cell? w _ hw434_2)).trans hw434_2), ((HB.out.cell (World.block_lt_of_cell? w _ hw434_3)).trans hw434_3), ((HB.out.cell (World.block_lt_of_cell? w _ hw434_4)).trans hw434_4), ((HB.out.cell (World.block_lt_of_cell? w _ hw434_5)).trans hw434_5), ((HB.out.cell (World.block_lt_of_cell? w _ hw434_6)).trans hw434_6), ((HB.out.cell (World.block_lt_of_cell? w _ hw435_0)).trans hw435_0), ((HB.out.cell (World.block_lt_of_cell? w _ hw435_1)).trans hw435_1), ((HB.out.cell (World.block_lt_of_cell? w _ hw435_2)).trans hw435_2), ((HB.out.cell (World.block_lt_of_cell? w _ hw435_3)).trans hw435_3), ((HB.out.cell (World.block_lt_of_cell? w _ hw435_4)).trans hw435_4), ((HB.out.cell (World.block_lt_of_cell? w _ hw435_5)).trans hw435_5), ((HB.out.cell (World.block_lt_of_cell? w _ hw435_6)).trans hw435_6), ((HB.out.cell (World.block_lt_of_cell? w _ hw436_0)).trans hw436_0), ((HB.out.cell (World.block_lt_of_cell? w _ hw436_1)).trans hw436_1), ((HB.out.cell (World.block_lt_of_cell? w _ hw436_2)).trans hw436_2), ((HB.out.cell (World.block_lt_of_cell? w _ hw436_3)).trans hw436_3), ((HB.out.cell (World.block_lt_of_cell? w _ hw436_4)).trans hw436_4), ((HB.out.cell (World.block_lt_of_cell? w _ hw436_5)).trans hw436_5), ((HB.out.cell (World.block_lt_of_cell? w _ hw436_6)).trans hw436_6), ((HB.out.cell (World.block_lt_of_cell? w _ hw437_0)).trans hw437_0), ((HB.out.cell (World.block_lt_of_cell? w _ hw437_1)).trans hw437_1), ((HB.out.cell (World.block_lt_of_cell? w _ hw437_2)).trans hw437_2), ((HB.out.cell (World.block_lt_of_cell? w _ hw437_3)).trans hw437_3), ((HB.out.cell (World.block_lt_of_cell? w _ hw437_4)).trans hw437_4), ((HB.out.cell (World.block_lt_of_cell? w _ hw437_5)).trans hw437_5), ((HB.out.cell (World.block_lt_of_cell? w _ hw437_6)).trans hw437_6), ((HB.out.cell (World.block_lt_of_cell? w _ hw438_0)).trans hw438_0), ((HB.out.cell (World.block_lt_of_cell? w _ hw438_1)).trans hw438_1), ((HB.out.cell (World.block_lt_of_cell? w _ hw438_2)).trans hw438_2), ((HB.out.cell (World.block_lt_of_cell? w _ hw438_3)).trans hw438_3), ((HB.out.cell (World.block_lt_of_cell? w _ hw438_4)).trans hw438_4), ((HB.out.cell (World.block_lt_of_cell? w _ hw438_5)).trans hw438_5), ((HB.out.cell (World.block_lt_of_cell? w _ hw438_6)).trans hw438_6), ((HB.out.cell (World.block_lt_of_cell? w _ hw439_0)).trans hw439_0), ((HB.out.cell (World.block_lt_of_cell? w _ hw439_1)).trans hw439_1), ((HB.out.cell (World.block_lt_of_cell? w _ hw439_2)).trans hw439_2), ((HB.out.cell (World.block_lt_of_cell? w _ hw439_3)).trans hw439_3), ((HB.out.cell (World.block_lt_of_cell? w _ hw439_4)).trans hw439_4), ((HB.out.cell (World.block_lt_of_cell? w _ hw439_5)).trans hw439_5), ((HB.out.cell (World.block_lt_of_cell? w _ hw439_6)).trans hw439_6)⟩ (fun hHeld => ?_); refine with_tabW mutoscoperef5_At.tab8 mutoscoperef5_At.bits8 (fun HT_ HW_ => ?_)
        generalize w19.drew = w20 at HB hx434_0 hx434_1 hx434_2 hx434_3 hx434_4 hx434_5 hx434_6 hx435_0 hx435_1 hx435_2 hx435_3 hx435_4 hx435_5 hx435_6 hx436_0 hx436_1 hx436_2 hx436_3 hx436_4 hx436_5 hx436_6 hx437_0 hx437_1 hx437_2 hx437_3 hx437_4 hx437_5 hx437_6 hx438_0 hx438_1 hx438_2 hx438_3 hx438_4 hx438_5 hx438_6 hx439_0 hx439_1 hx439_2 hx439_3 hx439_4 hx439_5 hx439_6 hHeld ⊢
        refine pure_ (i := 0) (N := some 31) (v := ?_) (a' := ?_) #[true, false, false, false, false, false, false, false, false, false, false, false, false, false, false, false, false, false, false, false, false, false, false, false, false, false, false, false, false, false, false, false, false, false, false, false, false] rfl rfl (any_of HT_.out (by kernel_rfl)) (fun _ _ _ h => h) (Or.inl ⟨by rfl, ?_⟩) ?_ ?_
        rotate_left
        ·intro w'
         go_simp
         with_reducible rfl
        rotate_left
        ·simp only [Act.put, List.setIfInBounds_toArray, List.set_cons_zero, List.set_cons_succ, i64_w, i32_w]
         rfl
        refine pure_ (i := 1) (N := some 32) (v := ?_) (a' := ?_) #[true, true, false, false, false, false, false, false, false, false, false, false, false, false, false, false, false, false, false, false, false, false, false, false, false, false, false, false, false, false, false, false, false, false, false, false, false] rfl rfl (any_of HT_.out (by kernel_rfl)) (fun _ _ _ h => h) (Or.inl ⟨by rfl, ?_⟩) ?_ ?_
        rotate_left
        ·intro w'
         go_simp
         with_reducible rfl
        rotate_left
        ·simp only [Act.put, List.setIfInBounds_toArray, List.set_cons_zero, List.set_cons_succ, i64_w, i32_w]
         rfl
        refine pure_ (i := 2) (N := some 33) (v := ?_) (a' := ?_) #[true, true, true, false, false, false, false, false, false, false, false, false, false, false, false, false, false, false, false, false, false, false, false, false, false, false, false, false, false, false, false, false, false, false, false, false, false] rfl rfl (any_of HT_.out (by kernel_rfl)) (fun _ _ _ h => h) (Or.inl ⟨by rfl, ?_⟩) ?_ ?_
        rotate_left
        ·intro w'
         go_simp
         with_reducible rfl
        rotate_left
        ·simp only [Act.put, List.setIfInBounds_toArray, List.set_cons_zero, List.set_cons_succ, i64_w, i32_w]
         rfl
        refine pure_ (i := 3) (N := some 34) (v := ?_) (a' := ?_) #[true, true, true, true, false, false, false, false, false, false, false, false, false, false, false, false, false, false, false, false, false, false, false, false, false, false, false, false, false, false, false, false, false, false, false, false, false] rfl rfl (any_of HT_.out (by kernel_rfl)) (fun _ _ _ h => h) (Or.inl ⟨by rfl, ?_⟩) ?_ ?_
        rotate_left
        ·intro w'
         go_simp
         with_reducible rfl
        rotate_left
        ·simp only [Act.put, List.setIfInBounds_toArray, List.set_cons_zero, List.set_cons_succ, i64_w, i32_w]
         rfl
        refine pure_ (i := 5) (N := some 36) (v := ?_) (a' := ?_) #[true, true, true, true, false, true, false, false, false, false, false, false, false, false, false, false, false, false, false, false, false, false, false, false, false, false, false, false, false, false, false, false, false, false, false, false, false] rfl rfl (any_of HT_.out (by kernel_rfl)) (fun _ _ _ h => h) (Or.inl ⟨by rfl, ?_⟩) ?_ ?_
        rotate_left
        ·intro w'
         go_simp
         with_reducible rfl
        rotate_left
        ·simp only [Act.put, List.setIfInBounds_toArray, List.set_cons_zero, List.set_cons_succ, i64_w, i32_w]
         rfl
        refine pure_ (i := 6) (N := some 37) (v := ?_) (a' := ?_) #[true, true, true, true, false, true, true, false, false, false, false, false, false, false, false, false, false, false, false, false, false, false, false, false, false, false, false, false, false, false, false, false, false, false, false, false, false] rfl rfl (any_of HT_.out (by kernel_rfl)) (fun _ _ _ h => h) (Or.inl ⟨by rfl, ?_⟩) ?_ ?_
        rotate_left
        ·intro w'
         go_simp
         with_reducible rfl
        rotate_left
        ·simp only [Act.put, List.setIfInBounds_toArray, List.set_cons_zero, List.set_cons_succ, i64_w, i32_w]
         rfl
        refine pure_ (i := 7) (N := some 38) (v := ?_) (a' := ?_) #[true, true, true, true, false, true, true, true, false, false, false, false, false, false, false, false, false, false, false, false, false, false, false, false, false, false, false, false, false, false, false, false, false, false, false, false, false] rfl rfl (any_of HT_.out (by kernel_rfl)) (fun _ _ _ h => h) (Or.inl ⟨by rfl, ?_⟩) ?_ ?_
        rotate_left
        ·intro w'
         go_simp
         with_reducible rfl
        rotate_left
        ·simp only [Act.put, List.setIfInBounds_toArray, List.set_cons_zero, List.set_cons_succ, i64_w, i32_w]
         rfl
        refine pure_ (i := 8) (N := some 39) (v := ?_) (a' := ?_) #[true, true, true, true, false, true, true, true, true, false, false, false, false, false, false, false, false, false, false, false, false, false, false, false, false, false, false, false, false, false, false, false, false, false, false, false, false] rfl rfl (any_of HT_.out (by kernel_rfl)) (fun _ _ _ h => h) (Or.inl ⟨by rfl, ?_⟩) ?_ ?_
        rotate_left
        ·intro w'
         go_simp
         with_reducible rfl
        rotate_left
        ·simp only [Act.put, List.setIfInBounds_toArray, List.set_cons_zero, List.set_cons_succ, i64_w, i32_w]
         rfl
        refine pure_ (i := 9) (N := some 40) (v := ?_) (a' := ?_) #[true, true, true, true, false, true, true, true, true, true, false, false, false, false, false, false, false, false, false, false, false, false, false, false, false, false, false, false, false, false, false, false, false, false, false, false, false] rfl rfl (any_of HT_.out (by kernel_rfl)) (fun _ _ _ h => h) (Or.inl ⟨by rfl, ?_⟩) ?_ ?_
        rotate_left
        ·intro w'
         go_simp
         with_reducible rfl
        rotate_left
        ·simp only [Act.put, List.setIfInBounds_toArray, List.set_cons_zero, List.set_cons_succ, i64_w, i32_w]
         rfl
        refine pure_ (i := 11) (N := some 42) (v := ?_) (a' := ?_) #[true, true, true, true, false, true, true, true, true, true, false, true, false, false, false, false, false, false, false, false, false, false, false, false, false, false, false, false, false, false, false, false, false, false, false, false, false] rfl rfl (any_of HT_.out (by kernel_rfl)) (fun _ _ _ h => h) (Or.inl ⟨by rfl, ?_⟩) ?_ ?_
        rotate_left
        ·intro w'
         go_simp
         with_reducible rfl
        rotate_left
        ·simp only [Act.put, List.setIfInBounds_toArray, List.set_cons_zero, List.set_cons_succ, i64_w, i32_w]
         rfl
        refine pure_ (i := 12) (N := some 43) (v := ?_) (a' := ?_) #[true, true, true, true, false, true, true, true, true, true, false, true, true, false, false, false, false, false, false, false, false, false, false, false, false, false, false, false, false, false, false, false, false, false, false, false, false] rfl rfl (any_of HT_.out (by kernel_rfl)) (fun _ _ _ h => h) (Or.inl ⟨by rfl, ?_⟩) ?_ ?_
        rotate_left
        ·intro w'
         go_simp
         with_reducible rfl
        rotate_left
        ·simp only [Act.put, List.setIfInBounds_toArray, List.set_cons_zero, List.set_cons_succ, i64_w, i32_w]
         rfl
        refine pure_ (i := 13) (N := some 44) (v := ?_) (a' := ?_) #[true, true, true, true, false, true, true, true, true, true, false, true, true, true, false, false, false, false, false, false, false, false, false, false, false, false, false, false, false, false, false, false, false, false, false, false, false] rfl rfl (any_of HT_.out (by kernel_rfl)) (fun _ _ _ h => h) (Or.inl ⟨by rfl, ?_⟩) ?_ ?_
        rotate_left
        ·intro w'
         go_simp
         with_reducible rfl
        rotate_left
        ·simp only [Act.put, List.setIfInBounds_toArray, List.set_cons_zero, List.set_cons_succ, i64_w, i32_w]
         rfl
        refine pure_ (i := 14) (N := some 45) (v := ?_) (a' := ?_) #[true, true, true, true, false, true, true, true, true, true, false, true, true, true, true, false, false, false, false, false, false, false, false, false, false, false, false, false, false, false, false, false, false, false, false, false, false] rfl rfl (any_of HT_.out (by kernel_rfl)) (fun _ _ _ h => h) (Or.inl ⟨by rfl, ?_⟩) ?_ ?_
        rotate_left
        ·intro w'
         go_simp
         with_reducible rfl
        rotate_left
        ·simp only [Act.put, List.setIfInBounds_toArray, List.set_cons_zero, List.set_cons_succ, i64_w, i32_w]
         rfl
        refine pure_ (i := 16) (N := some 47) (v := ?_) (a' := ?_) #[true, true, true, true, false, true, true, true, true, true, false, true, true, true, true, false, true, false, false, false, false, false, false, false, false, false, false, false, false, false, false, false, false, false, false, false, false] rfl rfl (any_of HT_.out (by kernel_rfl)) (fun _ _ _ h => h) (Or.inl ⟨by rfl, ?_⟩) ?_ ?_
        rotate_left
        ·intro w'
         go_simp
         with_reducible rfl
        rotate_left
        ·simp only [Act.put, List.setIfInBounds_toArray, List.set_cons_zero, List.set_cons_succ, i64_w, i32_w]
         rfl
        refine pure_ (i := 17) (N := some 48) (v := ?_) (a' := ?_) #[true, true, true, true, false, true, true, true, true, true, false, true, true, true, true, false, true, true, false, false, false, false, false, false, false, false, false, false, false, false, false, false, false, false, false, false, false] rfl rfl (any_of HT_.out (by kernel_rfl)) (fun _ _ _ h => h) (Or.inl ⟨by rfl, ?_⟩) ?_ ?_
        rotate_left
        ·intro w'
         go_simp
         with_reducible rfl
        rotate_left
        ·simp only [Act.put, List.setIfInBounds_toArray, List.set_cons_zero, List.set_cons_succ, i64_w, i32_w]
         rfl
        refine pure_ (i := 18) (N := some 49) (v := ?_) (a' := ?_) #[true, true, true, true, false, true, true, true, true, true, false, true, true, true, true, false, true, true, true, false, false, false, false, false, false, false, false, false, false, false, false, false, false, false, false, false, false] rfl rfl (any_of HT_.out (by kernel_rfl)) (fun _ _ _ h => h) (Or.inl ⟨by rfl, ?_⟩) ?_ ?_
        rotate_left
        ·intro w'
         go_simp
         with_reducible rfl
        rotate_left
        ·simp only [Act.put, List.setIfInBounds_toArray, List.set_cons_zero, List.set_cons_succ, i64_w, i32_w]
         rfl
        refine pure_ (i := 19) (N := some 50) (v := ?_) (a' := ?_) #[true, true, true, true, false, true, true, true, true, true, false, true, true, true, true, false, true, true, true, true, false, false, false, false, false, false, false, false, false, false, false, false, false, false, false, false, false] rfl rfl (any_of HT_.out (by kernel_rfl)) (fun _ _ _ h => h) (Or.inl ⟨by rfl, ?_⟩) ?_ ?_
        rotate_left
        ·intro w'
         go_simp
         with_reducible rfl
        rotate_left
        ·simp only [Act.put, List.setIfInBounds_toArray, List.set_cons_zero, List.set_cons_succ, i64_w, i32_w]
         rfl
        refine pure_ (i := 21) (N := some 52) (v := ?_) (a' := ?_) #[true, true, true, true, false, true, true, true, true, true, false, true, true, true, true, false, true, true, true, true, false, true, false, false, false, false, false, false, false, false, false, false, false, false, false, false, false] rfl rfl (any_of HT_.out (by kernel_rfl)) (fun _ _ _ h => h) (Or.inl ⟨by rfl, ?_⟩) ?_ ?_
        rotate_left
        ·intro w'
         go_simp
         with_reducible rfl
        rotate_left
        ·simp only [Act.put, List.setIfInBounds_toArray, List.set_cons_zero, List.set_cons_succ, i64_w, i32_w]
         rfl
        refine pure_ (i := 22) (N := some 53) (v := ?_) (a' := ?_) #[true, true, true, true, false, true, true, true, true, true, false, true, true, true, true, false, true, true, true, true, false, true, true, false, false, false, false, false, false, false, false, false, false, false, false, false, false] rfl rfl (any_of HT_.out (by kernel_rfl)) (fun _ _ _ h => h) (Or.inl ⟨by rfl, ?_⟩) ?_ ?_
        rotate_left
        ·intro w'
         go_simp
         with_reducible rfl
        rotate_left
        ·simp only [Act.put, List.setIfInBounds_toArray, List.set_cons_zero, List.set_cons_succ, i64_w, i32_w]
         rfl
        refine pure_ (i := 23) (N := some 54) (v := ?_) (a' := ?_) #[true, true, true, true, false, true, true, true, true, true, false, true, true, true, true, false, true, true, true, true, false, true, true, true, false, false, false, false, false, false, false, false, false, false, false, false, false] rfl rfl (any_of HT_.out (by kernel_rfl)) (fun _ _ _ h => h) (Or.inl ⟨by rfl, ?_⟩) ?_ ?_
        rotate_left
        ·intro w'
         go_simp
         with_reducible rfl
        rotate_left
        ·simp only [Act.put, List.setIfInBounds_toArray, List.set_cons_zero, List.set_cons_succ, i64_w, i32_w]
         rfl
        refine pure_ (i := 24) (N := some 55) (v := ?_) (a' := ?_) #[true, true, true, true, false, true, true, true, true, true, false, true, true, true, true, false, true, true, true, true, false, true, true, true, true, false, false, false, false, false, false, false, false, false, false, false, false] rfl rfl (any_of HT_.out (by kernel_rfl)) (fun _ _ _ h => h) (Or.inl ⟨by rfl, ?_⟩) ?_ ?_
        rotate_left
        ·intro w'
         go_simp
         with_reducible rfl
        rotate_left
        ·simp only [Act.put, List.setIfInBounds_toArray, List.set_cons_zero, List.set_cons_succ, i64_w, i32_w]
         rfl
        refine pure_ (i := 26) (N := some 57) (v := ?_) (a' := ?_) #[true, true, true, true, false, true, true, true, true, true, false, true, true, true, true, false, true, true, true, true, false, true, true, true, true, false, true, false, false, false, false, false, false, false, false, false, false] rfl rfl (any_of HT_.out (by kernel_rfl)) (fun _ _ _ h => h) (Or.inl ⟨by rfl, ?_⟩) ?_ ?_
        rotate_left
        ·intro w'
         go_simp
         with_reducible rfl
        rotate_left
        ·simp only [Act.put, List.setIfInBounds_toArray, List.set_cons_zero, List.set_cons_succ, i64_w, i32_w]
         rfl
        refine pure_ (i := 27) (N := some 58) (v := ?_) (a' := ?_) #[true, true, true, true, false, true, true, true, true, true, false, true, true, true, true, false, true, true, true, true, false, true, true, true, true, false, true, true, false, false, false, false, false, false, false, false, false] rfl rfl (any_of HT_.out (by kernel_rfl)) (fun _ _ _ h => h) (Or.inl ⟨by rfl, ?_⟩) ?_ ?_
        rotate_left
        ·intro w'
         go_simp
         with_reducible rfl
        rotate_left
        ·simp only [Act.put, List.setIfInBounds_toArray, List.set_cons_zero, List.set_cons_succ, i64_w, i32_w]
         rfl
        refine pure_ (i := 28) (N := some 59) (v := ?_) (a' := ?_) #[true, true, true, true, false, true, true, true, true, true, false, true, true, true, true, false, true, true, true, true, false, true, true, true, true, false, true, true, true, false, false, false, false, false, false, false, false] rfl rfl (any_of HT_.out (by kernel_rfl)) (fun _ _ _ h => h) (Or.inl ⟨by rfl, ?_⟩) ?_ ?_
        rotate_left
        ·intro w'
         go_simp
         with_reducible rfl
        rotate_left
        ·simp only [Act.put, List.setIfInBounds_toArray, List.set_cons_zero, List.set_cons_succ, i64_w, i32_w]
         rfl
        refine pure_ (i := 29) (N := some 60) (v := ?_) (a' := ?_) #[true, true, true, true, false, true, true, true, true, true, false, true, true, true, true, false, true, true, true, true, false, true, true, true, true, false, true, true, true, true, false, false, false, false, false, false, false] rfl rfl (any_of HT_.out (by kernel_rfl)) (fun _ _ _ h => h) (Or.inl ⟨by rfl, ?_⟩) ?_ ?_
        rotate_left
        ·intro w'
         go_simp
         with_reducible rfl
        rotate_left
        ·simp only [Act.put, List.setIfInBounds_toArray, List.set_cons_zero, List.set_cons_succ, i64_w, i32_w]
         rfl
        refine pure_ (i := 30) (N := some 61) (v := ?_) (a' := ?_) #[true, true, true, true, false, true, true, true, true, true, false, true, true, true, true, false, true, true, true, true, false, true, true, true, true, false, true, true, true, true, true, false, false, false, false, false, false] rfl rfl (any_of HT_.out (by kernel_rfl)) (fun _ _ _ h => h) (Or.inl ⟨by rfl, ?_⟩) ?_ ?_
        rotate_left
        ·intro w'
         go_simp
         with_reducible rfl
        rotate_left
        ·simp only [Act.put, List.setIfInBounds_toArray, List.set_cons_zero, List.set_cons_succ, i64_w, i32_w]
         rfl
        refine pure_ (i := 32) (N := some 63) (v := ?_) (a' := ?_) #[true, true, true, true, false, true, true, true, true, true, false, true, true, true, true, false, true, true, true, true, false, true, true, true, true, false, true, true, true, true, true, false, true, false, false, false, false] rfl rfl (any_of HT_.out (by kernel_rfl)) (fun _ _ _ h => h) (Or.inl ⟨by rfl, ?_⟩) ?_ ?_
        rotate_left
        ·intro w'
         go_simp
         with_reducible rfl
        rotate_left
        ·simp only [Act.put, List.setIfInBounds_toArray, List.set_cons_zero, List.set_cons_succ, i64_w, i32_w]
         rfl
        refine take_ (i := 4) (N := some 35) (v := ?_) (a' := ?_) #[true, true, true, true, true, true, true, true, true, true, false, true, true, true, true, false, true, true, true, true, false, true, true, true, true, false, true, true, true, true, true, false, true, false, false, false, false] rfl rfl (take_ofW HT_.out HW_.out (by kernel_rfl)) (fun _ _ _ h => h) (Or.inl ⟨by rfl, ?_⟩) hHeld ?_ ?_
        rotate_left
        ·rintro w' ⟨s0, s1, s2, s3, s4, s5, s6, s7, s8, s9, s10, s11, s12, s13, s14, s15, s16, s17, s18, s19, s20, s21, s22, s23, s24, s25, s26, s27, s28, s29, s30, s31, s32, s33, s34, s35, s36, s37, s38, s39, s40, s41⟩
         go_simp
         with_reducible rfl
        rotate_left
        ·simp only [Act.put, List.setIfInBounds_toArray, List.set_cons_zero, List.set_cons_succ, i64_w, i32_w]
         rfl
        refine take_ (i := 10) (N := some 41) (v := ?_) (a' := ?_) #[true, true, true, true, true, true, true, true, true, true, true, true, true, true, true, false, true, true, true, true, false, true, true, true, true, false, true, true, true, true, true, false, true, false, false, false, false] rfl rfl (take_ofW HT_.out HW_.out (by kernel_rfl)) (fun _ _ _ h => h) (Or.inl ⟨by rfl, ?_⟩) hHeld ?_ ?_
        rotate_left
        ·rintro w' ⟨s0, s1, s2, s3, s4, s5, s6, s7, s8, s9, s10, s11, s12, s13, s14, s15, s16, s17, s18, s19, s20, s21, s22, s23, s24, s25, s26, s27, s28, s29, s30, s31, s32, s33, s34, s35, s36, s37, s38, s39, s40, s41⟩
         go_simp
         with_reducible rfl
        rotate_left
        ·simp only [Act.put, List.setIfInBounds_toArray, List.set_cons_zero, List.set_cons_succ, i64_w, i32_w]
         rfl
        refine take_ (i := 15) (N := some 46) (v := ?_) (a' := ?_) #[true, true, true, true, true, true, true, true, true, true, true, true, true, true, true, true, true, true, true, true, false, true, true, true, true, false, true, true, true, true, true, false, true, false, false, false, false] rfl rfl (take_ofW HT_.out HW_.out (by kernel_rfl)) (fun _ _ _ h => h) (Or.inl ⟨by rfl, ?_⟩) hHeld ?_ ?_
        rotate_left
        ·rintro w' ⟨s0, s1, s2, s3, s4, s5, s6, s7, s8, s9, s10, s11, s12, s13, s14, s15, s16, s17, s18, s19, s20, s21, s22, s23, s24, s25, s26, s27, s28, s29, s30, s31, s32, s33, s34, s35, s36, s37, s38, s39, s40, s41⟩
         go_simp
         with_reducible rfl
        rotate_left
        ·simp only [Act.put, List.setIfInBounds_toArray, List.set_cons_zero, List.set_cons_succ, i64_w, i32_w]
         rfl
        refine take_ (i := 20) (N := some 51) (v := ?_) (a' := ?_) #[true, true, true, true, true, true, true, true, true, true, true, true, true, true, true, true, true, true, true, true, true, true, true, true, true, false, true, true, true, true, true, false, true, false, false, false, false] rfl rfl (take_ofW HT_.out HW_.out (by kernel_rfl)) (fun _ _ _ h => h) (Or.inl ⟨by rfl, ?_⟩) hHeld ?_ ?_
        rotate_left
        ·rintro w' ⟨s0, s1, s2, s3, s4, s5, s6, s7, s8, s9, s10, s11, s12, s13, s14, s15, s16, s17, s18, s19, s20, s21, s22, s23, s24, s25, s26, s27, s28, s29, s30, s31, s32, s33, s34, s35, s36, s37, s38, s39, s40, s41⟩
         go_simp
         with_reducible rfl
        rotate_left
        ·simp only [Act.put, List.setIfInBounds_toArray, List.set_cons_zero, List.set_cons_succ, i64_w, i32_w]
         rfl
        refine take_ (i := 25) (N := some 56) (v := ?_) (a' := ?_) #[true, true, true, true, true, true, true, true, true, true, true, true, true, true, true, true, true, true, true, true, true, true, true, true, true, true, true, true, true, true, true, false, true, false, false, false, false] rfl rfl (take_ofW HT_.out HW_.out (by kernel_rfl)) (fun _ _ _ h => h) (Or.inl ⟨by rfl, ?_⟩) hHeld ?_ ?_
        rotate_left
        ·rintro w' ⟨s0, s1, s2, s3, s4, s5, s6, s7, s8, s9, s10, s11, s12, s13, s14, s15, s16, s17, s18, s19, s20, s21, s22, s23, s24, s25, s26, s27, s28, s29, s30, s31, s32, s33, s34, s35, s36, s37, s38, s39, s40, s41⟩
         go_simp
         with_reducible rfl
        rotate_left
        ·simp only [Act.put, List.setIfInBounds_toArray, List.set_cons_zero, List.set_cons_succ, i64_w, i32_w]
         rfl
        refine take_ (i := 31) (N := some 62) (v := ?_) (a' := ?_) #[true, true, true, true, true, true, true, true, true, true, true, true, true, true, true, true, true, true, true, true, true, true, true, true, true, true, true, true, true, true, true, true, true, false, false, false, false] rfl rfl (take_ofW HT_.out HW_.out (by kernel_rfl)) (fun _ _ _ h => h) (Or.inl ⟨by rfl, ?_⟩) hHeld ?_ ?_
        rotate_left
        ·rintro w' ⟨s0, s1, s2, s3, s4, s5, s6, s7, s8, s9, s10, s11, s12, s13, s14, s15, s16, s17, s18, s19, s20, s21, s22, s23, s24, s25, s26, s27, s28, s29, s30, s31, s32, s33, s34, s35, s36, s37, s38, s39, s40, s41⟩
         go_simp
         with_reducible rfl
        rotate_left
        ·simp only [Act.put, List.setIfInBounds_toArray, List.set_cons_zero, List.set_cons_succ, i64_w, i32_w]
         rfl
        refine one_ (i := 33) (N := some 64) #[true, true, true, true, true, true, true, true, true, true, true, true, true, true, true, true, true, true, true, true, true, true, true, true, true, true, true, true, true, true, true, true, true, true, false, false, false] rfl rfl (one_of HT_.out (by kernel_rfl)) (by decide) (fun K hK => ?_)
        refine goes_ Try.func24 (by kernel_rfl) rfl #[.int .i64 ((rd_T34 l0 t431).f0), .int .i64 ((rd_T34 l0 (ji13)).f0), .int .i64 a1] (by rfl) rfl rfl (by (try simp only [List.map_toArray, List.map_cons, List.map_nil]); first | done | (simp only [hji13]; rfl) | rfl | (simp only [List.length_drop, List.length_take]; rfl)) ?_
        with_reducible refine (mutoscoperef5_Part.calls ((rd_T34 l0 t431).f0) ((rd_T34 l0 (ji13)).f0) a1 t440 _ A16.out).mono ?_
        rintro e w' ⟨rfl, ⟨nd, rfl⟩⟩
        refine ⟨_, rfl, ?_⟩
        refine hK.out _ _ ⟨((HB.out.cell (World.block_lt_of_cell? w _ hw434_0)).trans hw434_0), ((HB.out.cell (World.block_lt_of_cell? w _ hw434_1)).trans hw434_1), ((HB.out.cell (World.block_lt_of_cell? w _ hw434_2)).trans hw434_2), ((HB.out.cell (World.block_lt_of_cell? w _ hw434_3)).trans hw434_3), ((HB.out.cell (World.block_lt_of_cell? w _ hw434_4)).trans hw434_4), ((HB.out.cell (World.block_lt_of_cell? w _ hw434_5)).trans hw434_5), ((HB.out.cell (World.block_lt_of_cell? w _ hw434_6)).trans hw434_6), ((HB.out.cell (World.block_lt_of_cell? w _ hw435_0)).trans hw435_0), ((HB.out.cell (World.block_lt_of_cell? w _ hw435_1)).trans hw435_1), ((HB.out.cell (World.block_lt_of_cell? w _ hw435_2)).trans hw435_2), ((HB.out.cell (World.block_lt_of_cell? w _ hw435_3)).trans hw435_3), ((HB.out.cell (World.block_lt_of_cell? w _ hw435_4)).trans hw435_4), ((HB.out.cell (World.block_lt_of_cell? w _ hw435_5)).trans hw435_5), ((HB.out.cell (World.block_lt_of_cell? w _ hw435_6)).trans hw435_6), ((HB.out.cell (World.block_lt_of_cell? w _ hw436_0)).trans hw436_0), ((HB.out.cell (World.block_lt_of_cell? w _ hw436_1)).trans hw436_1), ((HB.out.cell (World.block_lt_of_cell? w _ hw436_2)).trans hw436_2), ((HB.out.cell (World.block_lt_of_cell? w _ hw436_3)).trans hw436_3), ((HB.out.cell (World.block_lt_of_cell? w _ hw436_4)).trans hw436_4), ((HB.out.cell (World.block_lt_of_cell? w _ hw436_5)).trans hw436_5), ((HB.out.cell (World.block_lt_of_cell? w _ hw436_6)).trans hw436_6), ((HB.out.cell (World.block_lt_of_cell? w _ hw437_0)).trans hw437_0), ((HB.out.cell (World.block_lt_of_cell? w _ hw437_1)).trans hw437_1), ((HB.out.cell (World.block_lt_of_cell? w _ hw437_2)).trans hw437_2), ((HB.out.cell (World.block_lt_of_cell? w _ hw437_3)).trans hw437_3), ((HB.out.cell (World.block_lt_of_cell? w _ hw437_4)).trans hw437_4), ((HB.out.cell (World.block_lt_of_cell? w _ hw437_5)).trans hw437_5), ((HB.out.cell (World.block_lt_of_cell? w _ hw437_6)).trans hw437_6), ((HB.out.cell (World.block_lt_of_cell? w _ hw438_0)).trans hw438_0), ((HB.out.cell (World.block_lt_of_cell? w _ hw438_1)).trans hw438_1), ((HB.out.cell (World.block_lt_of_cell? w _ hw438_2)).trans hw438_2), ((HB.out.cell (World.block_lt_of_cell? w _ hw438_3)).trans hw438_3), ((HB.out.cell (World.block_lt_of_cell? w _ hw438_4)).trans hw438_4), ((HB.out.cell (World.block_lt_of_cell? w _ hw438_5)).trans hw438_5), ((HB.out.cell (World.block_lt_of_cell? w _ hw438_6)).trans hw438_6), ((HB.out.cell (World.block_lt_of_cell? w _ hw439_0)).trans hw439_0), ((HB.out.cell (World.block_lt_of_cell? w _ hw439_1)).trans hw439_1), ((HB.out.cell (World.block_lt_of_cell? w _ hw439_2)).trans hw439_2), ((HB.out.cell (World.block_lt_of_cell? w _ hw439_3)).trans hw439_3), ((HB.out.cell (World.block_lt_of_cell? w _ hw439_4)).trans hw439_4), ((HB.out.cell (World.block_lt_of_cell? w _ hw439_5)).trans hw439_5), ((HB.out.cell (World.block_lt_of_cell? w _ hw439_6)).trans hw439_6)⟩ (fun hHeld => ?_)
        clear hK K
        refine norm_ (a' := ?_) ?_ ?_
        rotate_left
        ·show Act.put _ (some 64) _ = _
         simp only [Act.put, List.setIfInBounds_toArray, List.set_cons_zero, List.set_cons_succ, i64_w, i32_w]
         rfl
        refine one_ (i := 34) (N := some 65) #[true, true, true, true, true, true, true, true, true, true, true, true, true, true, true, true, true, true, true, true, true, true, true, true, true, true, true, true, true, true, true, true, true, true, true, false, false] rfl rfl (one_of HT_.out (by kernel_rfl)) (by decide) (fun K hK => ?_)
        refine goes_ Try.func28 (by kernel_rfl) rfl #[.int .i64 ((rd_T34 l0 t431).f2), .agg #[.int .i64 ((rd_T34 l0 t431).f3.f0), .int .i64 ((rd_T34 l0 t431).f3.f1), .int .i64 ((rd_T34 l0 t431).f3.f2), .int .i64 ((rd_T34 l0 t431).f3.f3)], .int .i64 t440] (by rfl) rfl rfl (by (try simp only [List.map_toArray, List.map_cons, List.map_nil]); first | done | rfl | (simp only [List.length_drop, List.length_take]; rfl)) ?_
        with_reducible refine (mutoscoperef5_Goes.calls k ((rd_T34 l0 t431).f2) ((rd_T34 l0 t431).f3.f0) ((rd_T34 l0 t431).f3.f1) ((rd_T34 l0 t431).f3.f2) ((rd_T34 l0 t431).f3.f3) t440 t441 _ A17.out).mono ?_
        rintro e w21 ⟨rfl, hb⟩
        refine ⟨_, rfl, ?_⟩
        have n0_ := Aside0.mk (below_step (by repeat (first | (with_reducible first | exact HB.out | apply below_alloc | apply pw_below_drewN | apply below_drew1) | exact HB.out)) hb)
        clear HB
        have HB := n0_
        clear n0_
        (try clear hb)
        (try clear hb2)
        (try clear hk)
        (try clear hi)
        refine hK.out _ _ ⟨((HB.out.cell (World.block_lt_of_cell? w _ hw434_0)).trans hw434_0), ((HB.out.cell (World.block_lt_of_cell? w _ hw434_1)).trans hw434_1), ((HB.out.cell (World.block_lt_of_cell? w _ hw434_2)).trans hw434_2), ((HB.out.cell (World.block_lt_of_cell? w _ hw434_3)).trans hw434_3), ((HB.out.cell (World.block_lt_of_cell? w _ hw434_4)).trans hw434_4), ((HB.out.cell (World.block_lt_of_cell? w _ hw434_5)).trans hw434_5), ((HB.out.cell (World.block_lt_of_cell? w _ hw434_6)).trans hw434_6), ((HB.out.cell (World.block_lt_of_cell? w _ hw435_0)).trans hw435_0), ((HB.out.cell (World.block_lt_of_cell? w _ hw435_1)).trans hw435_1), ((HB.out.cell (World.block_lt_of_cell? w _ hw435_2)).trans hw435_2), ((HB.out.cell (World.block_lt_of_cell? w _ hw435_3)).trans hw435_3), ((HB.out.cell (World.block_lt_of_cell? w _ hw435_4)).trans hw435_4), ((HB.out.cell (World.block_lt_of_cell? w _ hw435_5)).trans hw435_5), ((HB.out.cell (World.block_lt_of_cell? w _ hw435_6)).trans hw435_6), ((HB.out.cell (World.block_lt_of_cell? w _ hw436_0)).trans hw436_0), ((HB.out.cell (World.block_lt_of_cell? w _ hw436_1)).trans hw436_1), ((HB.out.cell (World.block_lt_of_cell? w _ hw436_2)).trans hw436_2), ((HB.out.cell (World.block_lt_of_cell? w _ hw436_3)).trans hw436_3), ((HB.out.cell (World.block_lt_of_cell? w _ hw436_4)).trans hw436_4), ((HB.out.cell (World.block_lt_of_cell? w _ hw436_5)).trans hw436_5), ((HB.out.cell (World.block_lt_of_cell? w _ hw436_6)).trans hw436_6), ((HB.out.cell (World.block_lt_of_cell? w _ hw437_0)).trans hw437_0), ((HB.out.cell (World.block_lt_of_cell? w _ hw437_1)).trans hw437_1), ((HB.out.cell (World.block_lt_of_cell? w _ hw437_2)).trans hw437_2), ((HB.out.cell (World.block_lt_of_cell? w _ hw437_3)).trans hw437_3), ((HB.out.cell (World.block_lt_of_cell? w _ hw437_4)).trans hw437_4), ((HB.out.cell (World.block_lt_of_cell? w _ hw437_5)).trans hw437_5), ((HB.out.cell (World.block_lt_of_cell? w _ hw437_6)).trans hw437_6), ((HB.out.cell (World.block_lt_of_cell? w _ hw438_0)).trans hw438_0), ((HB.out.cell (World.block_lt_of_cell? w _ hw438_1)).trans hw438_1), ((HB.out.cell (World.block_lt_of_cell? w _ hw438_2)).trans hw438_2), ((HB.out.cell (World.block_lt_of_cell? w _ hw438_3)).trans hw438_3), ((HB.out.cell (World.block_lt_of_cell? w _ hw438_4)).trans hw438_4), ((HB.out.cell (World.block_lt_of_cell? w _ hw438_5)).trans hw438_5), ((HB.out.cell (World.block_lt_of_cell? w _ hw438_6)).trans hw438_6), ((HB.out.cell (World.block_lt_of_cell? w _ hw439_0)).trans hw439_0), ((HB.out.cell (World.block_lt_of_cell? w _ hw439_1)).trans hw439_1), ((HB.out.cell (World.block_lt_of_cell? w _ hw439_2)).trans hw439_2), ((HB.out.cell (World.block_lt_of_cell? w _ hw439_3)).trans hw439_3), ((HB.out.cell (World.block_lt_of_cell? w _ hw439_4)).trans hw439_4), ((HB.out.cell (World.block_lt_of_cell? w _ hw439_5)).trans hw439_5), ((HB.out.cell (World.block_lt_of_cell? w _ hw439_6)).trans hw439_6)⟩ (fun hHeld => ?_)
        clear hK K
        refine norm_ (a' := ?_) ?_ ?_
        rotate_left
        ·show Act.put _ (some 65) _ = _
         simp only [Act.put, List.setIfInBounds_toArray, List.set_cons_zero, List.set_cons_succ, i64_w, i32_w]
         rfl
        refine one_ (i := 35) (N := some 66) #[true, true, true, true, true, true, true, true, true, true, true, true, true, true, true, true, true, true, true, true, true, true, true, true, true, true, true, true, true, true, true, true, true, true, true, true, false] rfl rfl (one_of HT_.out (by kernel_rfl)) (by decide) (fun K hK => ?_)
        refine goes_ Try.func54 (by kernel_rfl) rfl #[.int .i64 ((rd_T34 l0 t431).f1), .int .i64 ((rd_T34 l0 (ji13)).f1), .int .i64 t441] (by rfl) rfl rfl (by (try simp only [List.map_toArray, List.map_cons, List.map_nil]); first | done | (simp only [hji13]; rfl) | rfl | (simp only [List.length_drop, List.length_take]; rfl)) ?_
        with_reducible refine (mutoscoperef1_Mid.calls k ((rd_T34 l0 t431).f1) ((rd_T34 l0 (ji13)).f1) t441 t442 _ A18.out).mono ?_
        rintro e w22 ⟨rfl, hb⟩
        refine ⟨_, rfl, ?_⟩
        have n0_ := Aside0.mk (below_step (by repeat (first | (with_reducible first | exact HB.out | apply below_alloc | apply pw_below_drewN | apply below_drew1) | exact HB.out)) hb)
        clear HB
        have HB := n0_
        clear n0_
        (try clear hb)
        (try clear hb2)
        (try clear hk)
        (try clear hi)
        refine hK.out _ _ ⟨((HB.out.cell (World.block_lt_of_cell? w _ hw434_0)).trans hw434_0), ((HB.out.cell (World.block_lt_of_cell? w _ hw434_1)).trans hw434_1), ((HB.out.cell (World.block_lt_of_cell? w _ hw434_2)).trans hw434_2), ((HB.out.cell (World.block_lt_of_cell? w _ hw434_3)).trans hw434_3), ((HB.out.cell (World.block_lt_of_cell? w _ hw434_4)).trans hw434_4), ((HB.out.cell (World.block_lt_of_cell? w _ hw434_5)).trans hw434_5), ((HB.out.cell (World.block_lt_of_cell? w _ hw434_6)).trans hw434_6), ((HB.out.cell (World.block_lt_of_cell? w _ hw435_0)).trans hw435_0), ((HB.out.cell (World.block_lt_of_cell? w _ hw435_1)).trans hw435_1), ((HB.out.cell (World.block_lt_of_cell? w _ hw435_2)).trans hw435_2), ((HB.out.cell (World.block_lt_of_cell? w _ hw435_3)).trans hw435_3), ((HB.out.cell (World.block_lt_of_cell? w _ hw435_4)).trans hw435_4), ((HB.out.cell (World.block_lt_of_cell? w _ hw435_5)).trans hw435_5), ((HB.out.cell (World.block_lt_of_cell? w _ hw435_6)).trans hw435_6), ((HB.out.cell (World.block_lt_of_cell? w _ hw436_0)).trans hw436_0), ((HB.out.cell (World.block_lt_of_cell? w _ hw436_1)).trans hw436_1), ((HB.out.cell (World.block_lt_of_cell? w _ hw436_2)).trans hw436_2), ((HB.out.cell (World.block_lt_of_cell? w _ hw436_3)).trans hw436_3), ((HB.out.cell (World.block_lt_of_cell? w _ hw436_4)).trans hw436_4), ((HB.out.cell (World.block_lt_of_cell? w _ hw436_5)).trans hw436_5), ((HB.out.cell (World.block_lt_of_cell? w _ hw436_6)).trans hw436_6), ((HB.out.cell (World.block_lt_of_cell? w _ hw437_0)).trans hw437_0), ((HB.out.cell (World.block_lt_of_cell? w _ hw437_1)).trans hw437_1), ((HB.out.cell (World.block_lt_of_cell? w _ hw437_2)).trans hw437_2), ((HB.out.cell (World.block_lt_of_cell? w _ hw437_3)).trans hw437_3), ((HB.out.cell (World.block_lt_of_cell? w _ hw437_4)).trans hw437_4), ((HB.out.cell (World.block_lt_of_cell? w _ hw437_5)).trans hw437_5), ((HB.out.cell (World.block_lt_of_cell? w _ hw437_6)).trans hw437_6), ((HB.out.cell (World.block_lt_of_cell? w _ hw438_0)).trans hw438_0), ((HB.out.cell (World.block_lt_of_cell? w _ hw438_1)).trans hw438_1), ((HB.out.cell (World.block_lt_of_cell? w _ hw438_2)).trans hw438_2), ((HB.out.cell (World.block_lt_of_cell? w _ hw438_3)).trans hw438_3), ((HB.out.cell (World.block_lt_of_cell? w _ hw438_4)).trans hw438_4), ((HB.out.cell (World.block_lt_of_cell? w _ hw438_5)).trans hw438_5), ((HB.out.cell (World.block_lt_of_cell? w _ hw438_6)).trans hw438_6), ((HB.out.cell (World.block_lt_of_cell? w _ hw439_0)).trans hw439_0), ((HB.out.cell (World.block_lt_of_cell? w _ hw439_1)).trans hw439_1), ((HB.out.cell (World.block_lt_of_cell? w _ hw439_2)).trans hw439_2), ((HB.out.cell (World.block_lt_of_cell? w _ hw439_3)).trans hw439_3), ((HB.out.cell (World.block_lt_of_cell? w _ hw439_4)).trans hw439_4), ((HB.out.cell (World.block_lt_of_cell? w _ hw439_5)).trans hw439_5), ((HB.out.cell (World.block_lt_of_cell? w _ hw439_6)).trans hw439_6)⟩ (fun hHeld => ?_)
        clear hK K
        refine norm_ (a' := ?_) ?_ ?_
        rotate_left
        ·show Act.put _ (some 66) _ = _
         simp only [Act.put, List.setIfInBounds_toArray, List.set_cons_zero, List.set_cons_succ, i64_w, i32_w]
         rfl
        refine pure_ (i := 36) (N := some 6) (v := ?_) (a' := ?_) #[true, true, true, true, true, true, true, true, true, true, true, true, true, true, true, true, true, true, true, true, true, true, true, true, true, true, true, true, true, true, true, true, true, true, true, true, true] rfl rfl (any_of HT_.out (by kernel_rfl)) (fun _ _ _ h => h) (Or.inl ⟨by rfl, ?_⟩) ?_ ?_
        rotate_left
        ·intro w'
         go_simp
         with_reducible rfl
        rotate_left
        ·simp only [Act.put, List.setIfInBounds_toArray, List.set_cons_zero, List.set_cons_succ, i64_w, i32_w]
         rfl
        refine done_ (done_of HT_.out (by kernel_rfl)) ?_
        try go_wp2
        go_ret
        exact ⟨by first | rfl | (simp [errW_none, errW_some] <;> rfl) | (simp only [← hji13]; first | rfl | (simp [errW_none, errW_some] <;> rfl)) | (simp [*, errW_none, errW_some] <;> rfl), by repeat (first | (with_reducible first | exact HB.out | apply below_alloc | apply pw_below_drewN | apply below_drew1) | exact HB.out)⟩
       ·rw [if_neg c15] at H
        exact absurd H (by simp)
      ·rw [if_neg c14] at H
       exact absurd H (by simp)
     ·rw [if_neg c12] at H
      exact absurd H (by simp)
    ·rw [if_neg c11] at H
     exact absurd H (by simp)
end Go.Proofs.Ytejnbjclcdmopaa.PA
end
