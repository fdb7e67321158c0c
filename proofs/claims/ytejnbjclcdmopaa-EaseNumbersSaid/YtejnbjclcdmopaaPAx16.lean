/- Written by a program of this session (wip/hprint.py, over the kit's print program): Go functions as Lean functions, and for each a proof that its call answers what that function says. No condition beyond those stated. -/
import Derived.Test.YtejnbjclcdmopaaPAx0
import Derived.Test.YtejnbjclcdmopaaPAx4
import Derived.Test.YtejnbjclcdmopaaPAx5
import Derived.Test.YtejnbjclcdmopaaPAx14
import Derived.Test.YtejnbjclcdmopaaPAx15
namespace Go.Proofs.Ytejnbjclcdmopaa.PA
open Go.RowKit Go.Proofs.YtejnbjclcdmopaaW.PrintWords Go.Proofs.YtejnbjclcdmopaaW.PrintLast Go.Proofs.YtejnbjclcdmopaaW.PrintMore
attribute [local go_sem] max2_int min2_int max_two min_two max_three min_three max_four min_four   -- for this text's walks alone
attribute [local go_sem] Go.Proofs.Ytejnbjclcdmopaa.MS.isSome_setCell
set_option linter.unusedVariables false
set_option linter.unusedSimpArgs false

/-! ### mutoscopelaw4_EaseNumbers: function 9 -/
mutual
def mutoscopelaw4_EaseNumbers.l0 : Nat → List Int → Int → Int → Option (Bool)
  | 0, _, _, _ => none
  | k + 1, x11, x12, x13 => if x13 < x12 then (if 0 ≤ x13 then (if x13 < (x11.length : Int) then ((some (([(-131073), (-131072), 0, 65536, 196608, 196609, 4611686018427387904] : List Int) : List Int)).bind fun y212 => (mutoscopelaw4_EaseNumbers.l1 k (rd x11 x13) x11 x12 x13 y212 (y212.length : Int) 0)) else (none)) else (none)) else ((some (([(-9223372036854775808), (-9223372036854775807), (-1073741824), (-1), 0, 1, 2, 7, 1073741824, 4611686018427387909, 9223372036854775807] : List Int) : List Int)).bind fun y219 => (mutoscopelaw4_EaseNumbers.l3 k y219 (y219.length : Int) 0))
def mutoscopelaw4_EaseNumbers.l1 : Nat → Int → List Int → Int → Int → List Int → Int → Int → Option (Bool)
  | 0, _, _, _, _, _, _, _ => none
  | k + 1, x2, x11, x12, x13, x17, x18, x19 => if x19 < x18 then (if 0 ≤ x19 then (if x19 < (x17.length : Int) then (mutoscopelaw4_EaseNumbers.l2 k x2 (-2) x11 x12 x13 x17 x18 x19 x2 (rd x17 x19) (wrap64 (65536 - x2)) (wrap64 (-(rd x17 x19)))) else (none)) else (none)) else (mutoscopelaw4_EaseNumbers.l0 k x11 x12 (wrap64 (x13 + 1)))
def mutoscopelaw4_EaseNumbers.l2 : Nat → Int → Int → List Int → Int → Int → List Int → Int → Int → Int → Int → Int → Int → Option (Bool)
  | 0, _, _, _, _, _, _, _, _, _, _, _, _ => none
  | k + 1, x2, x6, x11, x12, x13, x17, x18, x19, x217000, x217001, x217002, x217003 => if x6 ≤ 66 then ((mutoscopelaw4_same.f k x217000 x217001 x217002 x217003 (wrap64 (Int.tdiv (wrap64 (x6 * 65536)) 64))).bind fun t217 => (if t217 = true then ((mutoscopelaw4_same.f k x217000 x217001 x217002 x217003 (wrap64 ((wrap64 (Int.tdiv (wrap64 (x6 * 65536)) 64)) - 1))).bind fun t218 => (if t218 = true then (mutoscopelaw4_EaseNumbers.l2 k x2 (wrap64 (x6 + 1)) x11 x12 x13 x17 x18 x19 x217000 x217001 x217002 x217003) else (none))) else (none))) else (mutoscopelaw4_EaseNumbers.l1 k x2 x11 x12 x13 x17 x18 (wrap64 (x19 + 1)))
def mutoscopelaw4_EaseNumbers.l3 : Nat → List Int → Int → Int → Option (Bool)
  | 0, _, _, _ => none
  | k + 1, x7, x53, x54 => if x54 < x53 then (mutoscopelaw4_EaseNumbers.l4 k x7 x54 x53 x54 (x7.length : Int) 0) else ((mutoscopelaw4_known.f k).bind fun t222 => (some t222))
def mutoscopelaw4_EaseNumbers.l4 : Nat → List Int → Int → Int → Int → Int → Int → Option (Bool)
  | 0, _, _, _, _, _, _ => none
  | k + 1, x7, x8, x53, x54, x58, x59 => if x59 < x58 then (mutoscopelaw4_EaseNumbers.l5 k x7 x8 x59 x53 x54 x58 x59 (x7.length : Int) 0) else (mutoscopelaw4_EaseNumbers.l3 k x7 x53 (wrap64 (x54 + 1)))
def mutoscopelaw4_EaseNumbers.l5 : Nat → List Int → Int → Int → Int → Int → Int → Int → Int → Int → Option (Bool)
  | 0, _, _, _, _, _, _, _, _, _ => none
  | k + 1, x7, x8, x9, x53, x54, x58, x59, x63, x64 => if x64 < x63 then (if 0 ≤ x8 then (if x8 < (x7.length : Int) then (if 0 ≤ x9 then (if x9 < (x7.length : Int) then (if 0 ≤ x64 then (if x64 < (x7.length : Int) then ((ease_Part.f (rd x7 x8) (rd x7 x9) (rd x7 x64)).bind fun t226 => ((mutoscoperef5_Part.f (rd x7 x8) (rd x7 x9) (rd x7 x64)).bind fun t230 => (if t226 = t230 then (mutoscopelaw4_EaseNumbers.l5 k x7 x8 x9 x53 x54 x58 x59 x63 (wrap64 (x64 + 1))) else (none)))) else (none)) else (none)) else (none)) else (none)) else (none)) else (none)) else (mutoscopelaw4_EaseNumbers.l4 k x7 x8 x53 x54 x58 (wrap64 (x59 + 1)))
end
def mutoscopelaw4_EaseNumbers.f (k : Nat)  : Option (Bool) := (some (([(-1), 0, 1, 21845, 65536, 65537] : List Int) : List Int)).bind fun y208 => (mutoscopelaw4_EaseNumbers.l0 k y208 (y208.length : Int) 0)
theorem mutoscopelaw4_EaseNumbers.mono_l : ∀ k, (∀ y0 y1 y2, LeO (mutoscopelaw4_EaseNumbers.l0 k y0 y1 y2) (mutoscopelaw4_EaseNumbers.l0 (k + 1) y0 y1 y2)) ∧ (∀ y0 y1 y2 y3 y4 y5 y6, LeO (mutoscopelaw4_EaseNumbers.l1 k y0 y1 y2 y3 y4 y5 y6) (mutoscopelaw4_EaseNumbers.l1 (k + 1) y0 y1 y2 y3 y4 y5 y6)) ∧ (∀ y0 y1 y2 y3 y4 y5 y6 y7 y8 y9 y10 y11, LeO (mutoscopelaw4_EaseNumbers.l2 k y0 y1 y2 y3 y4 y5 y6 y7 y8 y9 y10 y11) (mutoscopelaw4_EaseNumbers.l2 (k + 1) y0 y1 y2 y3 y4 y5 y6 y7 y8 y9 y10 y11)) ∧ (∀ y0 y1 y2, LeO (mutoscopelaw4_EaseNumbers.l3 k y0 y1 y2) (mutoscopelaw4_EaseNumbers.l3 (k + 1) y0 y1 y2)) ∧ (∀ y0 y1 y2 y3 y4 y5, LeO (mutoscopelaw4_EaseNumbers.l4 k y0 y1 y2 y3 y4 y5) (mutoscopelaw4_EaseNumbers.l4 (k + 1) y0 y1 y2 y3 y4 y5)) ∧ (∀ y0 y1 y2 y3 y4 y5 y6 y7 y8, LeO (mutoscopelaw4_EaseNumbers.l5 k y0 y1 y2 y3 y4 y5 y6 y7 y8) (mutoscopelaw4_EaseNumbers.l5 (k + 1) y0 y1 y2 y3 y4 y5 y6 y7 y8))
  | 0 => ⟨fun _ _ _ r h => by simp [mutoscopelaw4_EaseNumbers.l0] at h, fun _ _ _ _ _ _ _ r h => by simp [mutoscopelaw4_EaseNumbers.l1] at h, fun _ _ _ _ _ _ _ _ _ _ _ _ r h => by simp [mutoscopelaw4_EaseNumbers.l2] at h, fun _ _ _ r h => by simp [mutoscopelaw4_EaseNumbers.l3] at h, fun _ _ _ _ _ _ r h => by simp [mutoscopelaw4_EaseNumbers.l4] at h, fun _ _ _ _ _ _ _ _ _ r h => by simp [mutoscopelaw4_EaseNumbers.l5] at h⟩
  | k + 1 => by
    obtain ⟨ih0, ih1, ih2, ih3, ih4, ih5⟩ := mutoscopelaw4_EaseNumbers.mono_l k
    refine ⟨?_, ?_, ?_, ?_, ?_, ?_⟩
    · intro y0 y1 y2
      unfold mutoscopelaw4_EaseNumbers.l0
      repeat' first
      | (with_reducible exact ih0 _ _ _)
      | (with_reducible exact ih1 _ _ _ _ _ _ _)
      | (with_reducible exact ih2 _ _ _ _ _ _ _ _ _ _ _ _)
      | (with_reducible exact ih3 _ _ _)
      | (with_reducible exact ih4 _ _ _ _ _ _)
      | (with_reducible exact ih5 _ _ _ _ _ _ _ _ _)
      | (with_reducible exact mutoscopelaw4_known.mono _)
      | (with_reducible exact mutoscopelaw4_same.mono _ _ _ _ _ _)
      | (with_reducible exact LeO.refl _)
      | (with_reducible exact LeO.none _)
      | (with_reducible refine LeO.ite ?_ ?_)
      | (with_reducible refine LeO.bind ?_ (fun _ => ?_))
      | exact ih0 _ _ _
      | exact ih1 _ _ _ _ _ _ _
      | exact ih2 _ _ _ _ _ _ _ _ _ _ _ _
      | exact ih3 _ _ _
      | exact ih4 _ _ _ _ _ _
      | exact ih5 _ _ _ _ _ _ _ _ _
      | exact mutoscopelaw4_known.mono _
      | exact mutoscopelaw4_same.mono _ _ _ _ _ _
      | exact LeO.none _
      | refine LeO.ite ?_ ?_
      | refine LeO.bind ?_ (fun _ => ?_)
    · intro y0 y1 y2 y3 y4 y5 y6
      unfold mutoscopelaw4_EaseNumbers.l1
      repeat' first
      | (with_reducible exact ih0 _ _ _)
      | (with_reducible exact ih1 _ _ _ _ _ _ _)
      | (with_reducible exact ih2 _ _ _ _ _ _ _ _ _ _ _ _)
      | (with_reducible exact ih3 _ _ _)
      | (with_reducible exact ih4 _ _ _ _ _ _)
      | (with_reducible exact ih5 _ _ _ _ _ _ _ _ _)
      | (with_reducible exact mutoscopelaw4_known.mono _)
      | (with_reducible exact mutoscopelaw4_same.mono _ _ _ _ _ _)
      | (with_reducible exact LeO.refl _)
      | (with_reducible exact LeO.none _)
      | (with_reducible refine LeO.ite ?_ ?_)
      | (with_reducible refine LeO.bind ?_ (fun _ => ?_))
      | exact ih0 _ _ _
      | exact ih1 _ _ _ _ _ _ _
      | exact ih2 _ _ _ _ _ _ _ _ _ _ _ _
      | exact ih3 _ _ _
      | exact ih4 _ _ _ _ _ _
      | exact ih5 _ _ _ _ _ _ _ _ _
      | exact mutoscopelaw4_known.mono _
      | exact mutoscopelaw4_same.mono _ _ _ _ _ _
      | exact LeO.none _
      | refine LeO.ite ?_ ?_
      | refine LeO.bind ?_ (fun _ => ?_)
    · intro y0 y1 y2 y3 y4 y5 y6 y7 y8 y9 y10 y11
      unfold mutoscopelaw4_EaseNumbers.l2
      repeat' first
      | (with_reducible exact ih0 _ _ _)
      | (with_reducible exact ih1 _ _ _ _ _ _ _)
      | (with_reducible exact ih2 _ _ _ _ _ _ _ _ _ _ _ _)
      | (with_reducible exact ih3 _ _ _)
      | (with_reducible exact ih4 _ _ _ _ _ _)
      | (with_reducible exact ih5 _ _ _ _ _ _ _ _ _)
      | (with_reducible exact mutoscopelaw4_known.mono _)
      | (with_reducible exact mutoscopelaw4_same.mono _ _ _ _ _ _)
      | (with_reducible exact LeO.refl _)
      | (with_reducible exact LeO.none _)
      | (with_reducible refine LeO.ite ?_ ?_)
      | (with_reducible refine LeO.bind ?_ (fun _ => ?_))
      | exact ih0 _ _ _
      | exact ih1 _ _ _ _ _ _ _
      | exact ih2 _ _ _ _ _ _ _ _ _ _ _ _
      | exact ih3 _ _ _
      | exact ih4 _ _ _ _ _ _
      | exact ih5 _ _ _ _ _ _ _ _ _
      | exact mutoscopelaw4_known.mono _
      | exact mutoscopelaw4_same.mono _ _ _ _ _ _
      | exact LeO.none _
      | refine LeO.ite ?_ ?_
      | refine LeO.bind ?_ (fun _ => ?_)
    · intro y0 y1 y2
      unfold mutoscopelaw4_EaseNumbers.l3
      repeat' first
      | (with_reducible exact ih0 _ _ _)
      | (with_reducible exact ih1 _ _ _ _ _ _ _)
      | (with_reducible exact ih2 _ _ _ _ _ _ _ _ _ _ _ _)
      | (with_reducible exact ih3 _ _ _)
      | (with_reducible exact ih4 _ _ _ _ _ _)
      | (with_reducible exact ih5 _ _ _ _ _ _ _ _ _)
      | (with_reducible exact mutoscopelaw4_known.mono _)
      | (with_reducible exact mutoscopelaw4_same.mono _ _ _ _ _ _)
      | (with_reducible exact LeO.refl _)
      | (with_reducible exact LeO.none _)
      | (with_reducible refine LeO.ite ?_ ?_)
      | (with_reducible refine LeO.bind ?_ (fun _ => ?_))
      | exact ih0 _ _ _
      | exact ih1 _ _ _ _ _ _ _
      | exact ih2 _ _ _ _ _ _ _ _ _ _ _ _
      | exact ih3 _ _ _
      | exact ih4 _ _ _ _ _ _
      | exact ih5 _ _ _ _ _ _ _ _ _
      | exact mutoscopelaw4_known.mono _
      | exact mutoscopelaw4_same.mono _ _ _ _ _ _
      | exact LeO.none _
      | refine LeO.ite ?_ ?_
      | refine LeO.bind ?_ (fun _ => ?_)
    · intro y0 y1 y2 y3 y4 y5
      unfold mutoscopelaw4_EaseNumbers.l4
      repeat' first
      | (with_reducible exact ih0 _ _ _)
      | (with_reducible exact ih1 _ _ _ _ _ _ _)
      | (with_reducible exact ih2 _ _ _ _ _ _ _ _ _ _ _ _)
      | (with_reducible exact ih3 _ _ _)
      | (with_reducible exact ih4 _ _ _ _ _ _)
      | (with_reducible exact ih5 _ _ _ _ _ _ _ _ _)
      | (with_reducible exact mutoscopelaw4_known.mono _)
      | (with_reducible exact mutoscopelaw4_same.mono _ _ _ _ _ _)
      | (with_reducible exact LeO.refl _)
      | (with_reducible exact LeO.none _)
      | (with_reducible refine LeO.ite ?_ ?_)
      | (with_reducible refine LeO.bind ?_ (fun _ => ?_))
      | exact ih0 _ _ _
      | exact ih1 _ _ _ _ _ _ _
      | exact ih2 _ _ _ _ _ _ _ _ _ _ _ _
      | exact ih3 _ _ _
      | exact ih4 _ _ _ _ _ _
      | exact ih5 _ _ _ _ _ _ _ _ _
      | exact mutoscopelaw4_known.mono _
      | exact mutoscopelaw4_same.mono _ _ _ _ _ _
      | exact LeO.none _
      | refine LeO.ite ?_ ?_
      | refine LeO.bind ?_ (fun _ => ?_)
    · intro y0 y1 y2 y3 y4 y5 y6 y7 y8
      unfold mutoscopelaw4_EaseNumbers.l5
      repeat' first
      | (with_reducible exact ih0 _ _ _)
      | (with_reducible exact ih1 _ _ _ _ _ _ _)
      | (with_reducible exact ih2 _ _ _ _ _ _ _ _ _ _ _ _)
      | (with_reducible exact ih3 _ _ _)
      | (with_reducible exact ih4 _ _ _ _ _ _)
      | (with_reducible exact ih5 _ _ _ _ _ _ _ _ _)
      | (with_reducible exact mutoscopelaw4_known.mono _)
      | (with_reducible exact mutoscopelaw4_same.mono _ _ _ _ _ _)
      | (with_reducible exact LeO.refl _)
      | (with_reducible exact LeO.none _)
      | (with_reducible refine LeO.ite ?_ ?_)
      | (with_reducible refine LeO.bind ?_ (fun _ => ?_))
      | exact ih0 _ _ _
      | exact ih1 _ _ _ _ _ _ _
      | exact ih2 _ _ _ _ _ _ _ _ _ _ _ _
      | exact ih3 _ _ _
      | exact ih4 _ _ _ _ _ _
      | exact ih5 _ _ _ _ _ _ _ _ _
      | exact mutoscopelaw4_known.mono _
      | exact mutoscopelaw4_same.mono _ _ _ _ _ _
      | exact LeO.none _
      | refine LeO.ite ?_ ?_
      | refine LeO.bind ?_ (fun _ => ?_)
theorem mutoscopelaw4_EaseNumbers.mono : ∀ k, LeO (mutoscopelaw4_EaseNumbers.f k ) (mutoscopelaw4_EaseNumbers.f (k + 1) ) := by
  intro  k
  obtain ⟨ih0, ih1, ih2, ih3, ih4, ih5⟩ := mutoscopelaw4_EaseNumbers.mono_l k
  unfold mutoscopelaw4_EaseNumbers.f
  repeat' first
      | (with_reducible exact ih0 _ _ _)
      | (with_reducible exact ih1 _ _ _ _ _ _ _)
      | (with_reducible exact ih2 _ _ _ _ _ _ _ _ _ _ _ _)
      | (with_reducible exact ih3 _ _ _)
      | (with_reducible exact ih4 _ _ _ _ _ _)
      | (with_reducible exact ih5 _ _ _ _ _ _ _ _ _)
      | (with_reducible exact mutoscopelaw4_known.mono _)
      | (with_reducible exact mutoscopelaw4_same.mono _ _ _ _ _ _)
      | (with_reducible exact LeO.refl _)
      | (with_reducible exact LeO.none _)
      | (with_reducible refine LeO.ite ?_ ?_)
      | (with_reducible refine LeO.bind ?_ (fun _ => ?_))
      | exact ih0 _ _ _
      | exact ih1 _ _ _ _ _ _ _
      | exact ih2 _ _ _ _ _ _ _ _ _ _ _ _
      | exact ih3 _ _ _
      | exact ih4 _ _ _ _ _ _
      | exact ih5 _ _ _ _ _ _ _ _ _
      | exact mutoscopelaw4_known.mono _
      | exact mutoscopelaw4_same.mono _ _ _ _ _ _
      | exact LeO.none _
      | refine LeO.ite ?_ ?_
      | refine LeO.bind ?_ (fun _ => ?_)
set_option maxHeartbeats 8000000 in
set_option maxRecDepth 100000 in
theorem mutoscopelaw4_EaseNumbers.calls (k : Nat)  (r : Bool) (w : World) (h : mutoscopelaw4_EaseNumbers.f k  = some r) :
    Calls Try.prog 9 #[] w fun e w' => e = .returned (.bool r) ∧ Below w.heap.size w w' := by
  have hu23 := Try.underlying23
  have HB := Aside0.mk (Below.refl w.heap.size w)
  have H : ((some (([(-1), 0, 1, 21845, 65536, 65537] : List Int) : List Int)).bind fun y208 => (mutoscopelaw4_EaseNumbers.l0 k y208 (y208.length : Int) 0)) = some r := h
  clear h
  obtain ⟨y208, hy208⟩ : ∃ y_ : List Int, y_ = (([(-1), 0, 1, 21845, 65536, 65537] : List Int)) := ⟨_, rfl⟩
  replace H : (mutoscopelaw4_EaseNumbers.l0 k y208 (y208.length : Int) 0) = some r := by first | (rw [hy208]; with_reducible exact H) | (have H2_ := (Option.bind_some _ _).symm.trans H; rw [hy208]; with_reducible exact H2_) | (have H2_ := (Option.bind_some _ _).symm.trans H; with_reducible exact H2_) | with_reducible exact H | (rw [hy208]; exact H) | exact H
  have Ny208 := Aside0.mk hy208
  clear hy208
  have H' := Aside0.mk H
  clear H
  go_enter Try.func9, Try.ntmps9
  go_wp2_with (first | ((with_reducible refine gate_dst (N := 11) rfl ?_); refine Kd.R_lit (Kd.int .i64) _ 2 ?hg (N := 11) ?hd (xs := ([(-1), 0, 1, 21845, 65536, 65537] : List Int)) (inner := [.int .i64 (-1), .int .i64 0, .int .i64 1, .int .i64 21845, .int .i64 65536, .int .i64 65537]) (ok := fun _ => True) (okp := fun _ => True) ?hr ?hp (fun _ hk => hk) trivial (Below.refl _ _) (Nat.le_refl _) (by simp) ?_; (case hd => rfl); (case hg => rfl); (case hr => first | (go_simp; done) | (go_simp; rfl)); (case hp => exact (Reps.one (show Kd.M (Kd.int .i64) _ _ _ (-1) [.int .i64 (-1)] from rfl) (Reps.one (show Kd.M (Kd.int .i64) _ _ _ 0 [.int .i64 0] from rfl) (Reps.one (show Kd.M (Kd.int .i64) _ _ _ 1 [.int .i64 1] from rfl) (Reps.one (show Kd.M (Kd.int .i64) _ _ _ 21845 [.int .i64 21845] from rfl) (Reps.one (show Kd.M (Kd.int .i64) _ _ _ 65536 [.int .i64 65536] from rfl) (Reps.one (show Kd.M (Kd.int .i64) _ _ _ 65537 [.int .i64 65537] from rfl) (Reps.none _ _)))))))); intro v209 w1 ho2 hb hg_ hnew_; clear hg_ hnew_; (first | rw [← Ny208.out] at ho2 | (simp only [Int.reduceToNat] at ho2; rw [← Ny208.out] at ho2)); have n0_ := Aside0.mk (Kd.R_lower ho2 (below_size (by repeat (first | (with_reducible first | exact HB.out | apply below_alloc | apply pw_below_drewN | apply below_drew1) | exact HB.out)))); have n1_ := Aside0.mk (below_step (by repeat (first | (with_reducible first | exact HB.out | apply below_alloc | apply pw_below_drewN | apply below_drew1) | exact HB.out)) hb); clear HB; have HO210 := n0_; have HB := n1_; clear n0_ n1_; clear hb ho2; obtain ⟨Ao3, co3, eo3⟩ := Kd.R_slice HO210.out; subst eo3))
  repeat (go_quiet (first | ((with_reducible refine gate_dst (N := 11) rfl ?_); refine Kd.R_lit (Kd.int .i64) _ 2 ?hg (N := 11) ?hd (xs := ([(-1), 0, 1, 21845, 65536, 65537] : List Int)) (inner := [.int .i64 (-1), .int .i64 0, .int .i64 1, .int .i64 21845, .int .i64 65536, .int .i64 65537]) (ok := fun _ => True) (okp := fun _ => True) ?hr ?hp (fun _ hk => hk) trivial (Below.refl _ _) (Nat.le_refl _) (by simp) ?_; (case hd => rfl); (case hg => rfl); (case hr => first | (go_simp; done) | (go_simp; rfl)); (case hp => exact (Reps.one (show Kd.M (Kd.int .i64) _ _ _ (-1) [.int .i64 (-1)] from rfl) (Reps.one (show Kd.M (Kd.int .i64) _ _ _ 0 [.int .i64 0] from rfl) (Reps.one (show Kd.M (Kd.int .i64) _ _ _ 1 [.int .i64 1] from rfl) (Reps.one (show Kd.M (Kd.int .i64) _ _ _ 21845 [.int .i64 21845] from rfl) (Reps.one (show Kd.M (Kd.int .i64) _ _ _ 65536 [.int .i64 65536] from rfl) (Reps.one (show Kd.M (Kd.int .i64) _ _ _ 65537 [.int .i64 65537] from rfl) (Reps.none _ _)))))))); intro v209 w1 ho2 hb hg_ hnew_; clear hg_ hnew_; (first | rw [← Ny208.out] at ho2 | (simp only [Int.reduceToNat] at ho2; rw [← Ny208.out] at ho2)); have n0_ := Aside0.mk (Kd.R_lower ho2 (below_size (by repeat (first | (with_reducible first | exact HB.out | apply below_alloc | apply pw_below_drewN | apply below_drew1) | exact HB.out)))); have n1_ := Aside0.mk (below_step (by repeat (first | (with_reducible first | exact HB.out | apply below_alloc | apply pw_below_drewN | apply below_drew1) | exact HB.out)) hb); clear HB; have HO210 := n0_; have HB := n1_; clear n0_ n1_; clear hb ho2; obtain ⟨Ao3, co3, eo3⟩ := Kd.R_slice HO210.out; subst eo3)); try go_wp2_with (first | ((with_reducible refine gate_dst (N := 11) rfl ?_); refine Kd.R_lit (Kd.int .i64) _ 2 ?hg (N := 11) ?hd (xs := ([(-1), 0, 1, 21845, 65536, 65537] : List Int)) (inner := [.int .i64 (-1), .int .i64 0, .int .i64 1, .int .i64 21845, .int .i64 65536, .int .i64 65537]) (ok := fun _ => True) (okp := fun _ => True) ?hr ?hp (fun _ hk => hk) trivial (Below.refl _ _) (Nat.le_refl _) (by simp) ?_; (case hd => rfl); (case hg => rfl); (case hr => first | (go_simp; done) | (go_simp; rfl)); (case hp => exact (Reps.one (show Kd.M (Kd.int .i64) _ _ _ (-1) [.int .i64 (-1)] from rfl) (Reps.one (show Kd.M (Kd.int .i64) _ _ _ 0 [.int .i64 0] from rfl) (Reps.one (show Kd.M (Kd.int .i64) _ _ _ 1 [.int .i64 1] from rfl) (Reps.one (show Kd.M (Kd.int .i64) _ _ _ 21845 [.int .i64 21845] from rfl) (Reps.one (show Kd.M (Kd.int .i64) _ _ _ 65536 [.int .i64 65536] from rfl) (Reps.one (show Kd.M (Kd.int .i64) _ _ _ 65537 [.int .i64 65537] from rfl) (Reps.none _ _)))))))); intro v209 w1 ho2 hb hg_ hnew_; clear hg_ hnew_; (first | rw [← Ny208.out] at ho2 | (simp only [Int.reduceToNat] at ho2; rw [← Ny208.out] at ho2)); have n0_ := Aside0.mk (Kd.R_lower ho2 (below_size (by repeat (first | (with_reducible first | exact HB.out | apply below_alloc | apply pw_below_drewN | apply below_drew1) | exact HB.out)))); have n1_ := Aside0.mk (below_step (by repeat (first | (with_reducible first | exact HB.out | apply below_alloc | apply pw_below_drewN | apply below_drew1) | exact HB.out)) hb); clear HB; have HO210 := n0_; have HB := n1_; clear n0_ n1_; clear hb ho2; obtain ⟨Ao3, co3, eo3⟩ := Kd.R_slice HO210.out; subst eo3)))
  go_loopg [13] k (fun kq v13 w' => ∃ (x13_1 : Int), v13 = .int .i64 x13_1 ∧ Aside0 (mutoscopelaw4_EaseNumbers.l0 kq y208 (y208.length : Int) x13_1 = some r) ∧ Aside0 (kq ≤ k) ∧ Aside0 (Kd.R (Kd.int .i64) 2 w' w.heap.size (fun _ => True) (.slice Ao3 y208.length co3) y208) ∧ Aside0 (Below w.heap.size w w'))
  case atStart => exact ⟨(0), (by first | rfl | (simp; done) | (simp [*]; done)), H', ⟨Nat.le_refl _⟩, ⟨by (with_reducible repeat (first | apply Kd.R_alloc | apply Kd.R_drewN | apply Kd.R_drew)); exact HO210.out⟩, ⟨by repeat (first | (with_reducible first | exact HB.out | apply below_alloc | apply pw_below_drewN | apply below_drew1) | exact HB.out)⟩⟩
  case round =>
    clear H'
    try clear p2
    obtain ⟨x13_1, rfl, HA, HK1, HO_11, HB⟩ := hrel
    cases gk with
    | zero => exact absurd HA.out (by simp [mutoscopelaw4_EaseNumbers.l0])
    | succ k1 =>
      have H := HA.out
      clear HA
      simp only [mutoscopelaw4_EaseNumbers.l0] at H
      by_cases c4 : x13_1 < (y208.length : Int)
      · rw [if_pos c4] at H
        have c4b0 : decide (x13_1 < (y208.length : Int)) = true := decide_eq_true c4
        clear c4
        by_cases c5 : 0 ≤ x13_1
        · rw [if_pos c5] at H
          have c5b0 : decide (0 ≤ x13_1) = true := decide_eq_true c5
          clear c5
          by_cases c6 : x13_1 < (y208.length : Int)
          · rw [if_pos c6] at H
            have c6b0 : decide (x13_1 < (y208.length : Int)) = true := decide_eq_true c6
            clear c6
            obtain ⟨y212, hy212⟩ : ∃ y_ : List Int, y_ = (([(-131073), (-131072), 0, 65536, 196608, 196609, 4611686018427387904] : List Int)) := ⟨_, rfl⟩
            replace H : (mutoscopelaw4_EaseNumbers.l1 k1 (rd y208 x13_1) y208 (y208.length : Int) x13_1 y212 (y212.length : Int) 0) = some r := by first | (rw [hy212]; with_reducible exact H) | (have H2_ := (Option.bind_some _ _).symm.trans H; rw [hy212]; with_reducible exact H2_) | (have H2_ := (Option.bind_some _ _).symm.trans H; with_reducible exact H2_) | with_reducible exact H | (rw [hy212]; exact H) | exact H
            have Ny212 := Aside0.mk hy212
            clear hy212
            have H' := Aside0.mk H
            clear H
            have p211 : 0 ≤ (x13_1 : Int) := of_decide_eq_true (by first | (with_reducible assumption) | assumption)
            have q211 : x13_1 < (y208.length : Int) := of_decide_eq_true (by first | (with_reducible assumption) | assumption)
            obtain ⟨ad211, e211, hx211_0⟩ := Kd.at_int (Kd.R_reads' HO_11.out).2.2 x13_1 p211 q211
            cases e211
            replace p211 := eq_true p211
            replace q211 := eq_true q211
            go_wp2_with (first | ((with_reducible refine gate_dst (N := 17) rfl ?_); refine Kd.R_lit (Kd.int .i64) _ 2 ?hg (N := 17) ?hd (xs := ([(-131073), (-131072), 0, 65536, 196608, 196609, 4611686018427387904] : List Int)) (inner := [.int .i64 (-131073), .int .i64 (-131072), .int .i64 0, .int .i64 65536, .int .i64 196608, .int .i64 196609, .int .i64 4611686018427387904]) (ok := fun _ => True) (okp := fun _ => True) ?hr ?hp (fun _ hk => hk) trivial (Below.refl _ _) (Nat.le_refl _) (by simp) ?_; (case hd => rfl); (case hg => rfl); (case hr => first | (go_simp; done) | (go_simp; rfl)); (case hp => exact (Reps.one (show Kd.M (Kd.int .i64) _ _ _ (-131073) [.int .i64 (-131073)] from rfl) (Reps.one (show Kd.M (Kd.int .i64) _ _ _ (-131072) [.int .i64 (-131072)] from rfl) (Reps.one (show Kd.M (Kd.int .i64) _ _ _ 0 [.int .i64 0] from rfl) (Reps.one (show Kd.M (Kd.int .i64) _ _ _ 65536 [.int .i64 65536] from rfl) (Reps.one (show Kd.M (Kd.int .i64) _ _ _ 196608 [.int .i64 196608] from rfl) (Reps.one (show Kd.M (Kd.int .i64) _ _ _ 196609 [.int .i64 196609] from rfl) (Reps.one (show Kd.M (Kd.int .i64) _ _ _ 4611686018427387904 [.int .i64 4611686018427387904] from rfl) (Reps.none _ _))))))))); intro v213 w7 ho8 hb hg_ hnew_; clear hg_ hnew_; (first | rw [← Ny212.out] at ho8 | (simp only [Int.reduceToNat] at ho8; rw [← Ny212.out] at ho8)); have n0_ := Aside0.mk (Kd.R_elder' (by (with_reducible repeat (first | apply Kd.R_alloc | apply Kd.R_drewN | apply Kd.R_drew)); exact HO_11.out) (Kd.R_base ho8) hb); have n1_ := Aside0.mk (Kd.R_lower (Kd.R_new' ho8 (Kd.R_lt (by (with_reducible repeat (first | apply Kd.R_alloc | apply Kd.R_drewN | apply Kd.R_drew)); exact HO_11.out))) (below_size (by repeat (first | (with_reducible first | exact HB.out | apply below_alloc | apply pw_below_drewN | apply below_drew1) | exact HB.out)))); have n2_ := Aside0.mk (below_step (by repeat (first | (with_reducible first | exact HB.out | apply below_alloc | apply pw_below_drewN | apply below_drew1) | exact HB.out)) hb); clear HO_11; clear HB; have HO_11 := n0_; have HO214 := n1_; have HB := n2_; clear n0_ n1_ n2_; clear hb ho8; obtain ⟨Ao9, co9, eo9⟩ := Kd.R_slice HO214.out; subst eo9))
            repeat (go_quiet (first | ((with_reducible refine gate_dst (N := 17) rfl ?_); refine Kd.R_lit (Kd.int .i64) _ 2 ?hg (N := 17) ?hd (xs := ([(-131073), (-131072), 0, 65536, 196608, 196609, 4611686018427387904] : List Int)) (inner := [.int .i64 (-131073), .int .i64 (-131072), .int .i64 0, .int .i64 65536, .int .i64 196608, .int .i64 196609, .int .i64 4611686018427387904]) (ok := fun _ => True) (okp := fun _ => True) ?hr ?hp (fun _ hk => hk) trivial (Below.refl _ _) (Nat.le_refl _) (by simp) ?_; (case hd => rfl); (case hg => rfl); (case hr => first | (go_simp; done) | (go_simp; rfl)); (case hp => exact (Reps.one (show Kd.M (Kd.int .i64) _ _ _ (-131073) [.int .i64 (-131073)] from rfl) (Reps.one (show Kd.M (Kd.int .i64) _ _ _ (-131072) [.int .i64 (-131072)] from rfl) (Reps.one (show Kd.M (Kd.int .i64) _ _ _ 0 [.int .i64 0] from rfl) (Reps.one (show Kd.M (Kd.int .i64) _ _ _ 65536 [.int .i64 65536] from rfl) (Reps.one (show Kd.M (Kd.int .i64) _ _ _ 196608 [.int .i64 196608] from rfl) (Reps.one (show Kd.M (Kd.int .i64) _ _ _ 196609 [.int .i64 196609] from rfl) (Reps.one (show Kd.M (Kd.int .i64) _ _ _ 4611686018427387904 [.int .i64 4611686018427387904] from rfl) (Reps.none _ _))))))))); intro v213 w7 ho8 hb hg_ hnew_; clear hg_ hnew_; (first | rw [← Ny212.out] at ho8 | (simp only [Int.reduceToNat] at ho8; rw [← Ny212.out] at ho8)); have n0_ := Aside0.mk (Kd.R_elder' (by (with_reducible repeat (first | apply Kd.R_alloc | apply Kd.R_drewN | apply Kd.R_drew)); exact HO_11.out) (Kd.R_base ho8) hb); have n1_ := Aside0.mk (Kd.R_lower (Kd.R_new' ho8 (Kd.R_lt (by (with_reducible repeat (first | apply Kd.R_alloc | apply Kd.R_drewN | apply Kd.R_drew)); exact HO_11.out))) (below_size (by repeat (first | (with_reducible first | exact HB.out | apply below_alloc | apply pw_below_drewN | apply below_drew1) | exact HB.out)))); have n2_ := Aside0.mk (below_step (by repeat (first | (with_reducible first | exact HB.out | apply below_alloc | apply pw_below_drewN | apply below_drew1) | exact HB.out)) hb); clear HO_11; clear HB; have HO_11 := n0_; have HO214 := n1_; have HB := n2_; clear n0_ n1_ n2_; clear hb ho8; obtain ⟨Ao9, co9, eo9⟩ := Kd.R_slice HO214.out; subst eo9)); try go_wp2_with (first | ((with_reducible refine gate_dst (N := 17) rfl ?_); refine Kd.R_lit (Kd.int .i64) _ 2 ?hg (N := 17) ?hd (xs := ([(-131073), (-131072), 0, 65536, 196608, 196609, 4611686018427387904] : List Int)) (inner := [.int .i64 (-131073), .int .i64 (-131072), .int .i64 0, .int .i64 65536, .int .i64 196608, .int .i64 196609, .int .i64 4611686018427387904]) (ok := fun _ => True) (okp := fun _ => True) ?hr ?hp (fun _ hk => hk) trivial (Below.refl _ _) (Nat.le_refl _) (by simp) ?_; (case hd => rfl); (case hg => rfl); (case hr => first | (go_simp; done) | (go_simp; rfl)); (case hp => exact (Reps.one (show Kd.M (Kd.int .i64) _ _ _ (-131073) [.int .i64 (-131073)] from rfl) (Reps.one (show Kd.M (Kd.int .i64) _ _ _ (-131072) [.int .i64 (-131072)] from rfl) (Reps.one (show Kd.M (Kd.int .i64) _ _ _ 0 [.int .i64 0] from rfl) (Reps.one (show Kd.M (Kd.int .i64) _ _ _ 65536 [.int .i64 65536] from rfl) (Reps.one (show Kd.M (Kd.int .i64) _ _ _ 196608 [.int .i64 196608] from rfl) (Reps.one (show Kd.M (Kd.int .i64) _ _ _ 196609 [.int .i64 196609] from rfl) (Reps.one (show Kd.M (Kd.int .i64) _ _ _ 4611686018427387904 [.int .i64 4611686018427387904] from rfl) (Reps.none _ _))))))))); intro v213 w7 ho8 hb hg_ hnew_; clear hg_ hnew_; (first | rw [← Ny212.out] at ho8 | (simp only [Int.reduceToNat] at ho8; rw [← Ny212.out] at ho8)); have n0_ := Aside0.mk (Kd.R_elder' (by (with_reducible repeat (first | apply Kd.R_alloc | apply Kd.R_drewN | apply Kd.R_drew)); exact HO_11.out) (Kd.R_base ho8) hb); have n1_ := Aside0.mk (Kd.R_lower (Kd.R_new' ho8 (Kd.R_lt (by (with_reducible repeat (first | apply Kd.R_alloc | apply Kd.R_drewN | apply Kd.R_drew)); exact HO_11.out))) (below_size (by repeat (first | (with_reducible first | exact HB.out | apply below_alloc | apply pw_below_drewN | apply below_drew1) | exact HB.out)))); have n2_ := Aside0.mk (below_step (by repeat (first | (with_reducible first | exact HB.out | apply below_alloc | apply pw_below_drewN | apply below_drew1) | exact HB.out)) hb); clear HO_11; clear HB; have HO_11 := n0_; have HO214 := n1_; have HB := n2_; clear n0_ n1_ n2_; clear hb ho8; obtain ⟨Ao9, co9, eo9⟩ := Kd.R_slice HO214.out; subst eo9)))
            go_loopg [19] k1 (fun kq v19 w' => ∃ (x19_2 : Int), v19 = .int .i64 x19_2 ∧ Aside0 (mutoscopelaw4_EaseNumbers.l1 kq (rd y208 x13_1) y208 (y208.length : Int) x13_1 y212 (y212.length : Int) x19_2 = some r) ∧ Aside0 (kq ≤ k1) ∧ Aside0 (Kd.R (Kd.int .i64) 2 w' w.heap.size (fun k_ => some k_ ≠ ((.slice Ao9 y212.length co9) : Value).ownBlock) (.slice (some ad211) y208.length co3) y208) ∧ Aside0 (Kd.R (Kd.int .i64) 2 w' w.heap.size (fun k_ => some k_ ≠ ((.slice (some ad211) y208.length co3) : Value).ownBlock) (.slice Ao9 y212.length co9) y212) ∧ Aside0 (Below w.heap.size w w'))
            case atStart => exact ⟨(0), (by first | rfl | (simp; done) | (simp [*]; done)), H', ⟨Nat.le_refl _⟩, ⟨by (with_reducible repeat (first | apply Kd.R_alloc | apply Kd.R_drewN | apply Kd.R_drew)); exact Kd.R_mono HO_11.out (fun _ hk => hk.2)⟩, ⟨by (with_reducible repeat (first | apply Kd.R_alloc | apply Kd.R_drewN | apply Kd.R_drew)); exact Kd.R_mono HO214.out (fun _ hk => hk.2)⟩, ⟨by repeat (first | (with_reducible first | exact HB.out | apply below_alloc | apply pw_below_drewN | apply below_drew1) | exact HB.out)⟩⟩
            case round =>
              clear H'
              try clear p2
              try clear q2
              try clear hx2
              try clear c4
              try clear c4b0
              try clear c5
              try clear c5b0
              try clear c6
              try clear c6b0
              try clear c9
              try clear hx211_0
              try clear p2
              try clear p211
              try clear q211
              obtain ⟨x19_2, rfl, HA, HK2, HO_11, HO_17, HB⟩ := hrel
              cases gk with
              | zero => exact absurd HA.out (by simp [mutoscopelaw4_EaseNumbers.l1])
              | succ k2 =>
                have H := HA.out
                clear HA
                simp only [mutoscopelaw4_EaseNumbers.l1] at H
                by_cases c10 : x19_2 < (y212.length : Int)
                · rw [if_pos c10] at H
                  have c10b0 : decide (x19_2 < (y212.length : Int)) = true := decide_eq_true c10
                  clear c10
                  by_cases c11 : 0 ≤ x19_2
                  · rw [if_pos c11] at H
                    have c11b0 : decide (0 ≤ x19_2) = true := decide_eq_true c11
                    clear c11
                    by_cases c12 : x19_2 < (y212.length : Int)
                    · rw [if_pos c12] at H
                      have c12b0 : decide (x19_2 < (y212.length : Int)) = true := decide_eq_true c12
                      clear c12
                      have H' := Aside0.mk H
                      clear H
                      have p215 : 0 ≤ (x19_2 : Int) := of_decide_eq_true (by first | (with_reducible assumption) | assumption)
                      have q215 : x19_2 < (y212.length : Int) := of_decide_eq_true (by first | (with_reducible assumption) | assumption)
                      obtain ⟨ad215, e215, hx215_0⟩ := Kd.at_int (Kd.R_reads' HO_17.out).2.2 x19_2 p215 q215
                      cases e215
                      replace p215 := eq_true p215
                      replace q215 := eq_true q215
                      go_wp2_with (first | ((with_reducible refine gate_dst (N := 5) rfl ?_); refine box_event ?hg (N := 5) ?hd (cs := #[.int .i64 0, .int .i64 0, .int .i64 0, .int .i64 0]) (t := 23) ?hr ?_; (case hd => rfl); (case hg => rfl); (case hr => first | (go_simp; done) | (go_simp; rfl)); intro gb216 hg w13 hbox hb; have n0_ := Aside0.mk (Kd.R_below (by (with_reducible repeat (first | apply Kd.R_alloc | apply Kd.R_drewN | apply Kd.R_drew)); exact HO_11.out) hb); have n1_ := Aside0.mk (Kd.R_below (by (with_reducible repeat (first | apply Kd.R_alloc | apply Kd.R_drewN | apply Kd.R_drew)); exact HO_17.out) hb); have n2_ := Aside0.mk (below_step (by repeat (first | (with_reducible first | exact HB.out | apply below_alloc | apply pw_below_drewN | apply below_drew1) | exact HB.out)) hb); have n3_ := Aside0.mk (hbox); have n4_ := Aside0.mk ((by rw [hg]; exact (below_size (by repeat (first | (with_reducible first | exact HB.out | apply below_alloc | apply pw_below_drewN | apply below_drew1) | exact HB.out))) : w.heap.size ≤ gb216)); have n5_ := Aside0.mk ((by rw [hg]; exact (below_size (by repeat (first | (with_reducible first | exact HB.out | apply below_alloc | apply pw_below_drewN | apply below_drew1) | exact HB.out))) : w.heap.size ≤ gb216)); clear HO_11; clear HO_17; clear HB; have HO_11 := n0_; have HO_17 := n1_; have HB := n2_; have BK216 := n3_; have GW216 := n4_; have GE216 := n5_; clear n0_ n1_ n2_ n3_ n4_ n5_; clear hb hbox hg; have hcz14_0 : w13.cell? ⟨gb216, 0, none⟩ = some (.int .i64 0) := (blk_cell BK216.out 0).trans rfl; have hcz14_1 : w13.cell? ⟨gb216, 1, none⟩ = some (.int .i64 0) := (blk_cell BK216.out 1).trans rfl; have hcz14_2 : w13.cell? ⟨gb216, 2, none⟩ = some (.int .i64 0) := (blk_cell BK216.out 2).trans rfl; have hcz14_3 : w13.cell? ⟨gb216, 3, none⟩ = some (.int .i64 0) := (blk_cell BK216.out 3).trans rfl; have hfz14_0 := blk_frozen BK216.out 0; have hfz14_1 := blk_frozen BK216.out 1; have hfz14_2 := blk_frozen BK216.out 2; have hfz14_3 := blk_frozen BK216.out 3))
                      repeat (go_quiet (first | ((with_reducible refine gate_dst (N := 5) rfl ?_); refine box_event ?hg (N := 5) ?hd (cs := #[.int .i64 0, .int .i64 0, .int .i64 0, .int .i64 0]) (t := 23) ?hr ?_; (case hd => rfl); (case hg => rfl); (case hr => first | (go_simp; done) | (go_simp; rfl)); intro gb216 hg w13 hbox hb; have n0_ := Aside0.mk (Kd.R_below (by (with_reducible repeat (first | apply Kd.R_alloc | apply Kd.R_drewN | apply Kd.R_drew)); exact HO_11.out) hb); have n1_ := Aside0.mk (Kd.R_below (by (with_reducible repeat (first | apply Kd.R_alloc | apply Kd.R_drewN | apply Kd.R_drew)); exact HO_17.out) hb); have n2_ := Aside0.mk (below_step (by repeat (first | (with_reducible first | exact HB.out | apply below_alloc | apply pw_below_drewN | apply below_drew1) | exact HB.out)) hb); have n3_ := Aside0.mk (hbox); have n4_ := Aside0.mk ((by rw [hg]; exact (below_size (by repeat (first | (with_reducible first | exact HB.out | apply below_alloc | apply pw_below_drewN | apply below_drew1) | exact HB.out))) : w.heap.size ≤ gb216)); have n5_ := Aside0.mk ((by rw [hg]; exact (below_size (by repeat (first | (with_reducible first | exact HB.out | apply below_alloc | apply pw_below_drewN | apply below_drew1) | exact HB.out))) : w.heap.size ≤ gb216)); clear HO_11; clear HO_17; clear HB; have HO_11 := n0_; have HO_17 := n1_; have HB := n2_; have BK216 := n3_; have GW216 := n4_; have GE216 := n5_; clear n0_ n1_ n2_ n3_ n4_ n5_; clear hb hbox hg; have hcz14_0 : w13.cell? ⟨gb216, 0, none⟩ = some (.int .i64 0) := (blk_cell BK216.out 0).trans rfl; have hcz14_1 : w13.cell? ⟨gb216, 1, none⟩ = some (.int .i64 0) := (blk_cell BK216.out 1).trans rfl; have hcz14_2 : w13.cell? ⟨gb216, 2, none⟩ = some (.int .i64 0) := (blk_cell BK216.out 2).trans rfl; have hcz14_3 : w13.cell? ⟨gb216, 3, none⟩ = some (.int .i64 0) := (blk_cell BK216.out 3).trans rfl; have hfz14_0 := blk_frozen BK216.out 0; have hfz14_1 := blk_frozen BK216.out 1; have hfz14_2 := blk_frozen BK216.out 2; have hfz14_3 := blk_frozen BK216.out 3)); try go_wp2_with (first | ((with_reducible refine gate_dst (N := 5) rfl ?_); refine box_event ?hg (N := 5) ?hd (cs := #[.int .i64 0, .int .i64 0, .int .i64 0, .int .i64 0]) (t := 23) ?hr ?_; (case hd => rfl); (case hg => rfl); (case hr => first | (go_simp; done) | (go_simp; rfl)); intro gb216 hg w13 hbox hb; have n0_ := Aside0.mk (Kd.R_below (by (with_reducible repeat (first | apply Kd.R_alloc | apply Kd.R_drewN | apply Kd.R_drew)); exact HO_11.out) hb); have n1_ := Aside0.mk (Kd.R_below (by (with_reducible repeat (first | apply Kd.R_alloc | apply Kd.R_drewN | apply Kd.R_drew)); exact HO_17.out) hb); have n2_ := Aside0.mk (below_step (by repeat (first | (with_reducible first | exact HB.out | apply below_alloc | apply pw_below_drewN | apply below_drew1) | exact HB.out)) hb); have n3_ := Aside0.mk (hbox); have n4_ := Aside0.mk ((by rw [hg]; exact (below_size (by repeat (first | (with_reducible first | exact HB.out | apply below_alloc | apply pw_below_drewN | apply below_drew1) | exact HB.out))) : w.heap.size ≤ gb216)); have n5_ := Aside0.mk ((by rw [hg]; exact (below_size (by repeat (first | (with_reducible first | exact HB.out | apply below_alloc | apply pw_below_drewN | apply below_drew1) | exact HB.out))) : w.heap.size ≤ gb216)); clear HO_11; clear HO_17; clear HB; have HO_11 := n0_; have HO_17 := n1_; have HB := n2_; have BK216 := n3_; have GW216 := n4_; have GE216 := n5_; clear n0_ n1_ n2_ n3_ n4_ n5_; clear hb hbox hg; have hcz14_0 : w13.cell? ⟨gb216, 0, none⟩ = some (.int .i64 0) := (blk_cell BK216.out 0).trans rfl; have hcz14_1 : w13.cell? ⟨gb216, 1, none⟩ = some (.int .i64 0) := (blk_cell BK216.out 1).trans rfl; have hcz14_2 : w13.cell? ⟨gb216, 2, none⟩ = some (.int .i64 0) := (blk_cell BK216.out 2).trans rfl; have hcz14_3 : w13.cell? ⟨gb216, 3, none⟩ = some (.int .i64 0) := (blk_cell BK216.out 3).trans rfl; have hfz14_0 := blk_frozen BK216.out 0; have hfz14_1 := blk_frozen BK216.out 1; have hfz14_2 := blk_frozen BK216.out 2; have hfz14_3 := blk_frozen BK216.out 3)))
                      go_loopg [6] k2 (fun kq v6 w' => ∃ (x6_3 : Int), v6 = .int .i64 x6_3 ∧ Aside0 (mutoscopelaw4_EaseNumbers.l2 kq (rd y208 x13_1) x6_3 y208 (y208.length : Int) x13_1 y212 (y212.length : Int) x19_2 (rd y208 x13_1) (rd y212 x19_2) (wrap64 (65536 - (rd y208 x13_1))) (wrap64 (-(rd y212 x19_2))) = some r) ∧ Aside0 (kq ≤ k2) ∧ Aside0 (Kd.R (Kd.int .i64) 2 w' w.heap.size (fun k_ => some k_ ≠ ((.slice (some ad215) y212.length co9) : Value).ownBlock) (.slice (some ad211) y208.length co3) y208) ∧ Aside0 (Kd.R (Kd.int .i64) 2 w' w.heap.size (fun k_ => some k_ ≠ ((.slice (some ad211) y208.length co3) : Value).ownBlock) (.slice (some ad215) y212.length co9) y212) ∧ Aside0 (w'.heap[gb216]? = some (.cells #[.int .i64 (rd y208 x13_1), .int .i64 (rd y212 x19_2), .int .i64 (wrap64 (65536 - (rd y208 x13_1))), .int .i64 (wrap64 (-(rd y212 x19_2)))] 23 (0, 0))) ∧ Aside0 (Below w.heap.size w w'))
                      case atStart => exact ⟨((-2)), (by first | rfl | (simp; done) | (simp [*]; done)), H', ⟨Nat.le_refl _⟩, ⟨by (with_reducible repeat (first | apply Kd.R_alloc | apply Kd.R_drewN | apply Kd.R_drew)); exact Kd.R_mono (Kd.R_far (p := ⟨gb216, 3, none⟩) (Kd.R_far (p := ⟨gb216, 2, none⟩) (Kd.R_far (p := ⟨gb216, 1, none⟩) (Kd.R_far (p := ⟨gb216, 0, none⟩) (Kd.R_types HO_11.out BK216.out (by decide)) (fun _ hk => hk.2) (.int .i64 (rd y208 x13_1))) (fun _ hk => hk.2) (.int .i64 (rd y212 x19_2))) (fun _ hk => hk.2) (.int .i64 (wrap64 (65536 - (rd y208 x13_1))))) (fun _ hk => hk.2) (.int .i64 (wrap64 (-(rd y212 x19_2))))) (fun _ hk => hk.1)⟩, ⟨by (with_reducible repeat (first | apply Kd.R_alloc | apply Kd.R_drewN | apply Kd.R_drew)); exact Kd.R_mono (Kd.R_far (p := ⟨gb216, 3, none⟩) (Kd.R_far (p := ⟨gb216, 2, none⟩) (Kd.R_far (p := ⟨gb216, 1, none⟩) (Kd.R_far (p := ⟨gb216, 0, none⟩) (Kd.R_types HO_17.out BK216.out (by decide)) (fun _ hk => hk.2) (.int .i64 (rd y208 x13_1))) (fun _ hk => hk.2) (.int .i64 (rd y212 x19_2))) (fun _ hk => hk.2) (.int .i64 (wrap64 (65536 - (rd y208 x13_1))))) (fun _ hk => hk.2) (.int .i64 (wrap64 (-(rd y212 x19_2))))) (fun _ hk => hk.1)⟩, ⟨by (with_reducible repeat (first | refine blk_drewN ?_ _ | refine blk_drew ?_ | refine blk_alloc ?_ _)); refine blk_put (cs := #[.int .i64 (rd y208 x13_1), .int .i64 (rd y212 x19_2), .int .i64 (wrap64 (65536 - (rd y208 x13_1))), .int .i64 0]) ?_ 3 _ rfl; (with_reducible repeat (first | refine blk_drewN ?_ _ | refine blk_drew ?_ | refine blk_alloc ?_ _)); refine blk_put (cs := #[.int .i64 (rd y208 x13_1), .int .i64 (rd y212 x19_2), .int .i64 0, .int .i64 0]) ?_ 2 _ rfl; (with_reducible repeat (first | refine blk_drewN ?_ _ | refine blk_drew ?_ | refine blk_alloc ?_ _)); refine blk_put (cs := #[.int .i64 (rd y208 x13_1), .int .i64 0, .int .i64 0, .int .i64 0]) ?_ 1 _ rfl; (with_reducible repeat (first | refine blk_drewN ?_ _ | refine blk_drew ?_ | refine blk_alloc ?_ _)); refine blk_put (cs := #[.int .i64 0, .int .i64 0, .int .i64 0, .int .i64 0]) ?_ 0 _ rfl; (with_reducible repeat (first | refine blk_drewN ?_ _ | refine blk_drew ?_ | refine blk_alloc ?_ _)); exact BK216.out⟩, ⟨by repeat (first | (with_reducible first | exact HB.out | apply below_alloc | apply pw_below_drewN | apply below_drew1 | refine below_set ?_ GE216.out) | exact HB.out)⟩⟩
                      case round =>
                        clear H'
                        try clear c1
                        try clear p2
                        try clear q2
                        try clear hx2
                        try clear c4
                        try clear c4b0
                        try clear c5
                        try clear c5b0
                        try clear c6
                        try clear c6b0
                        try clear p6
                        try clear c9
                        try clear c10
                        try clear c10b0
                        try clear c11
                        try clear c11b0
                        try clear c12
                        try clear c12b0
                        try clear hcz14_0
                        try clear hcz14_1
                        try clear hcz14_2
                        try clear hcz14_3
                        try clear hfz14_0
                        try clear hfz14_1
                        try clear hfz14_2
                        try clear hfz14_3
                        try clear hx211_0
                        try clear hx215_0
                        try clear p2
                        try clear p211
                        try clear p215
                        try clear q2
                        try clear q211
                        try clear q215
                        obtain ⟨x6_3, rfl, HA, HK3, HO_11, HO_17, BK216, HB⟩ := hrel
                        cases gk with
                        | zero => exact absurd HA.out (by simp [mutoscopelaw4_EaseNumbers.l2])
                        | succ k3 =>
                          have H := HA.out
                          clear HA
                          simp only [mutoscopelaw4_EaseNumbers.l2] at H
                          by_cases c15 : x6_3 ≤ 66
                          · rw [if_pos c15] at H
                            have c15b0 : decide (x6_3 ≤ 66) = true := decide_eq_true c15
                            clear c15
                            replace H := Option.bind_eq_some_iff.mp H
                            obtain ⟨t217, A160, H⟩ := H
                            replace H : (if t217 = true then ((mutoscopelaw4_same.f k3 (rd y208 x13_1) (rd y212 x19_2) (wrap64 (65536 - (rd y208 x13_1))) (wrap64 (-(rd y212 x19_2))) (wrap64 ((wrap64 (Int.tdiv (wrap64 (x6_3 * 65536)) 64)) - 1))).bind fun t218 => (if t218 = true then (mutoscopelaw4_EaseNumbers.l2 k3 (rd y208 x13_1) (wrap64 (x6_3 + 1)) y208 (y208.length : Int) x13_1 y212 (y212.length : Int) x19_2 (rd y208 x13_1) (rd y212 x19_2) (wrap64 (65536 - (rd y208 x13_1))) (wrap64 (-(rd y212 x19_2)))) else (none))) else (none)) = some r := H
                            have A16 := Aside0.mk A160
                            clear A160
                            by_cases c17 : t217 = true
                            · subst c17
                              have H1 : ((mutoscopelaw4_same.f k3 (rd y208 x13_1) (rd y212 x19_2) (wrap64 (65536 - (rd y208 x13_1))) (wrap64 (-(rd y212 x19_2))) (wrap64 ((wrap64 (Int.tdiv (wrap64 (x6_3 * 65536)) 64)) - 1))).bind fun t218 => (if t218 = true then (mutoscopelaw4_EaseNumbers.l2 k3 (rd y208 x13_1) (wrap64 (x6_3 + 1)) y208 (y208.length : Int) x13_1 y212 (y212.length : Int) x19_2 (rd y208 x13_1) (rd y212 x19_2) (wrap64 (65536 - (rd y208 x13_1))) (wrap64 (-(rd y212 x19_2)))) else (none))) = some r := by rw [if_pos rfl] at H; exact H
                              clear H
                              have H := H1
                              clear H1
                              replace H := Option.bind_eq_some_iff.mp H
                              obtain ⟨t218, A180, H⟩ := H
                              replace H : (if t218 = true then (mutoscopelaw4_EaseNumbers.l2 k3 (rd y208 x13_1) (wrap64 (x6_3 + 1)) y208 (y208.length : Int) x13_1 y212 (y212.length : Int) x19_2 (rd y208 x13_1) (rd y212 x19_2) (wrap64 (65536 - (rd y208 x13_1))) (wrap64 (-(rd y212 x19_2)))) else (none)) = some r := H
                              have A18 := Aside0.mk A180
                              clear A180
                              by_cases c19 : t218 = true
                              · subst c19
                                have H1 : (mutoscopelaw4_EaseNumbers.l2 k3 (rd y208 x13_1) (wrap64 (x6_3 + 1)) y208 (y208.length : Int) x13_1 y212 (y212.length : Int) x19_2 (rd y208 x13_1) (rd y212 x19_2) (wrap64 (65536 - (rd y208 x13_1))) (wrap64 (-(rd y212 x19_2)))) = some r := by rw [if_pos rfl] at H; exact H
                                clear H
                                have H := H1
                                clear H1
                                have H' := Aside0.mk H
                                clear H
                                have hcz20_0 : wr.cell? ⟨gb216, 0, none⟩ = some (.int .i64 (rd y208 x13_1)) := (blk_cell BK216.out 0).trans rfl
                                have hcz20_1 : wr.cell? ⟨gb216, 1, none⟩ = some (.int .i64 (rd y212 x19_2)) := (blk_cell BK216.out 1).trans rfl
                                have hcz20_2 : wr.cell? ⟨gb216, 2, none⟩ = some (.int .i64 (wrap64 (65536 - (rd y208 x13_1)))) := (blk_cell BK216.out 2).trans rfl
                                have hcz20_3 : wr.cell? ⟨gb216, 3, none⟩ = some (.int .i64 (wrap64 (-(rd y212 x19_2)))) := (blk_cell BK216.out 3).trans rfl
                                have hfz20_0 := blk_frozen BK216.out 0
                                have hfz20_1 := blk_frozen BK216.out 1
                                have hfz20_2 := blk_frozen BK216.out 2
                                have hfz20_3 := blk_frozen BK216.out 3
                                go_wp2_with (first | (go_at_call 23; (with_reducible refine (mutoscopelaw4_same.calls k3 (rd y208 x13_1) (rd y212 x19_2) (wrap64 (65536 - (rd y208 x13_1))) (wrap64 (-(rd y212 x19_2))) (wrap64 (Int.tdiv (wrap64 (x6_3 * 65536)) 64)) true _ A16.out).mono ?_); rintro e w21 ⟨rfl, hb⟩; have n0_ := Aside0.mk (Kd.R_below (by (with_reducible repeat (first | apply Kd.R_alloc | apply Kd.R_drewN | apply Kd.R_drew)); exact HO_11.out) hb); have n1_ := Aside0.mk (Kd.R_below (by (with_reducible repeat (first | apply Kd.R_alloc | apply Kd.R_drewN | apply Kd.R_drew)); exact HO_17.out) hb); have n2_ := Aside0.mk (blk_below (g := gb216) (o := .cells #[.int .i64 (rd y208 x13_1), .int .i64 (rd y212 x19_2), .int .i64 (wrap64 (65536 - (rd y208 x13_1))), .int .i64 (wrap64 (-(rd y212 x19_2)))] 23 (0, 0)) (by (with_reducible repeat (first | refine blk_drewN ?_ _ | refine blk_drew ?_ | refine blk_alloc ?_ _)); exact BK216.out) hb); have n3_ := Aside0.mk (below_step (by repeat (first | (with_reducible first | exact HB.out | apply below_alloc | apply pw_below_drewN | apply below_drew1 | refine below_set ?_ GE216.out) | exact HB.out)) hb); clear HO_11; clear HO_17; clear BK216; clear HB; have HO_11 := n0_; have HO_17 := n1_; have BK216 := n2_; have HB := n3_; clear n0_ n1_ n2_ n3_; (try clear hb); (try clear hb2); (try clear hk); (try clear hi); have hcz22_0 : w21.cell? ⟨gb216, 0, none⟩ = some (.int .i64 (rd y208 x13_1)) := (blk_cell BK216.out 0).trans rfl; have hcz22_1 : w21.cell? ⟨gb216, 1, none⟩ = some (.int .i64 (rd y212 x19_2)) := (blk_cell BK216.out 1).trans rfl; have hcz22_2 : w21.cell? ⟨gb216, 2, none⟩ = some (.int .i64 (wrap64 (65536 - (rd y208 x13_1)))) := (blk_cell BK216.out 2).trans rfl; have hcz22_3 : w21.cell? ⟨gb216, 3, none⟩ = some (.int .i64 (wrap64 (-(rd y212 x19_2)))) := (blk_cell BK216.out 3).trans rfl; have hfz22_0 := blk_frozen BK216.out 0; have hfz22_1 := blk_frozen BK216.out 1; have hfz22_2 := blk_frozen BK216.out 2; have hfz22_3 := blk_frozen BK216.out 3) | (go_at_call 23; (with_reducible refine (mutoscopelaw4_same.calls k3 (rd y208 x13_1) (rd y212 x19_2) (wrap64 (65536 - (rd y208 x13_1))) (wrap64 (-(rd y212 x19_2))) (wrap64 ((wrap64 (Int.tdiv (wrap64 (x6_3 * 65536)) 64)) - 1)) true _ A18.out).mono ?_); rintro e w23 ⟨rfl, hb⟩; have n0_ := Aside0.mk (Kd.R_below (by (with_reducible repeat (first | apply Kd.R_alloc | apply Kd.R_drewN | apply Kd.R_drew)); exact HO_11.out) hb); have n1_ := Aside0.mk (Kd.R_below (by (with_reducible repeat (first | apply Kd.R_alloc | apply Kd.R_drewN | apply Kd.R_drew)); exact HO_17.out) hb); have n2_ := Aside0.mk (blk_below (g := gb216) (o := .cells #[.int .i64 (rd y208 x13_1), .int .i64 (rd y212 x19_2), .int .i64 (wrap64 (65536 - (rd y208 x13_1))), .int .i64 (wrap64 (-(rd y212 x19_2)))] 23 (0, 0)) (by (with_reducible repeat (first | refine blk_drewN ?_ _ | refine blk_drew ?_ | refine blk_alloc ?_ _)); exact BK216.out) hb); have n3_ := Aside0.mk (below_step (by repeat (first | (with_reducible first | exact HB.out | apply below_alloc | apply pw_below_drewN | apply below_drew1 | refine below_set ?_ GE216.out) | exact HB.out)) hb); clear HO_11; clear HO_17; clear BK216; clear HB; have HO_11 := n0_; have HO_17 := n1_; have BK216 := n2_; have HB := n3_; clear n0_ n1_ n2_ n3_; (try clear hb); (try clear hb2); (try clear hk); (try clear hi)))
                                repeat (go_quiet (first | (go_at_call 23; (with_reducible refine (mutoscopelaw4_same.calls k3 (rd y208 x13_1) (rd y212 x19_2) (wrap64 (65536 - (rd y208 x13_1))) (wrap64 (-(rd y212 x19_2))) (wrap64 (Int.tdiv (wrap64 (x6_3 * 65536)) 64)) true _ A16.out).mono ?_); rintro e w21 ⟨rfl, hb⟩; have n0_ := Aside0.mk (Kd.R_below (by (with_reducible repeat (first | apply Kd.R_alloc | apply Kd.R_drewN | apply Kd.R_drew)); exact HO_11.out) hb); have n1_ := Aside0.mk (Kd.R_below (by (with_reducible repeat (first | apply Kd.R_alloc | apply Kd.R_drewN | apply Kd.R_drew)); exact HO_17.out) hb); have n2_ := Aside0.mk (blk_below (g := gb216) (o := .cells #[.int .i64 (rd y208 x13_1), .int .i64 (rd y212 x19_2), .int .i64 (wrap64 (65536 - (rd y208 x13_1))), .int .i64 (wrap64 (-(rd y212 x19_2)))] 23 (0, 0)) (by (with_reducible repeat (first | refine blk_drewN ?_ _ | refine blk_drew ?_ | refine blk_alloc ?_ _)); exact BK216.out) hb); have n3_ := Aside0.mk (below_step (by repeat (first | (with_reducible first | exact HB.out | apply below_alloc | apply pw_below_drewN | apply below_drew1 | refine below_set ?_ GE216.out) | exact HB.out)) hb); clear HO_11; clear HO_17; clear BK216; clear HB; have HO_11 := n0_; have HO_17 := n1_; have BK216 := n2_; have HB := n3_; clear n0_ n1_ n2_ n3_; (try clear hb); (try clear hb2); (try clear hk); (try clear hi); have hcz22_0 : w21.cell? ⟨gb216, 0, none⟩ = some (.int .i64 (rd y208 x13_1)) := (blk_cell BK216.out 0).trans rfl; have hcz22_1 : w21.cell? ⟨gb216, 1, none⟩ = some (.int .i64 (rd y212 x19_2)) := (blk_cell BK216.out 1).trans rfl; have hcz22_2 : w21.cell? ⟨gb216, 2, none⟩ = some (.int .i64 (wrap64 (65536 - (rd y208 x13_1)))) := (blk_cell BK216.out 2).trans rfl; have hcz22_3 : w21.cell? ⟨gb216, 3, none⟩ = some (.int .i64 (wrap64 (-(rd y212 x19_2)))) := (blk_cell BK216.out 3).trans rfl; have hfz22_0 := blk_frozen BK216.out 0; have hfz22_1 := blk_frozen BK216.out 1; have hfz22_2 := blk_frozen BK216.out 2; have hfz22_3 := blk_frozen BK216.out 3) | (go_at_call 23; (with_reducible refine (mutoscopelaw4_same.calls k3 (rd y208 x13_1) (rd y212 x19_2) (wrap64 (65536 - (rd y208 x13_1))) (wrap64 (-(rd y212 x19_2))) (wrap64 ((wrap64 (Int.tdiv (wrap64 (x6_3 * 65536)) 64)) - 1)) true _ A18.out).mono ?_); rintro e w23 ⟨rfl, hb⟩; have n0_ := Aside0.mk (Kd.R_below (by (with_reducible repeat (first | apply Kd.R_alloc | apply Kd.R_drewN | apply Kd.R_drew)); exact HO_11.out) hb); have n1_ := Aside0.mk (Kd.R_below (by (with_reducible repeat (first | apply Kd.R_alloc | apply Kd.R_drewN | apply Kd.R_drew)); exact HO_17.out) hb); have n2_ := Aside0.mk (blk_below (g := gb216) (o := .cells #[.int .i64 (rd y208 x13_1), .int .i64 (rd y212 x19_2), .int .i64 (wrap64 (65536 - (rd y208 x13_1))), .int .i64 (wrap64 (-(rd y212 x19_2)))] 23 (0, 0)) (by (with_reducible repeat (first | refine blk_drewN ?_ _ | refine blk_drew ?_ | refine blk_alloc ?_ _)); exact BK216.out) hb); have n3_ := Aside0.mk (below_step (by repeat (first | (with_reducible first | exact HB.out | apply below_alloc | apply pw_below_drewN | apply below_drew1 | refine below_set ?_ GE216.out) | exact HB.out)) hb); clear HO_11; clear HO_17; clear BK216; clear HB; have HO_11 := n0_; have HO_17 := n1_; have BK216 := n2_; have HB := n3_; clear n0_ n1_ n2_ n3_; (try clear hb); (try clear hb2); (try clear hk); (try clear hi))); try go_wp2_with (first | (go_at_call 23; (with_reducible refine (mutoscopelaw4_same.calls k3 (rd y208 x13_1) (rd y212 x19_2) (wrap64 (65536 - (rd y208 x13_1))) (wrap64 (-(rd y212 x19_2))) (wrap64 (Int.tdiv (wrap64 (x6_3 * 65536)) 64)) true _ A16.out).mono ?_); rintro e w21 ⟨rfl, hb⟩; have n0_ := Aside0.mk (Kd.R_below (by (with_reducible repeat (first | apply Kd.R_alloc | apply Kd.R_drewN | apply Kd.R_drew)); exact HO_11.out) hb); have n1_ := Aside0.mk (Kd.R_below (by (with_reducible repeat (first | apply Kd.R_alloc | apply Kd.R_drewN | apply Kd.R_drew)); exact HO_17.out) hb); have n2_ := Aside0.mk (blk_below (g := gb216) (o := .cells #[.int .i64 (rd y208 x13_1), .int .i64 (rd y212 x19_2), .int .i64 (wrap64 (65536 - (rd y208 x13_1))), .int .i64 (wrap64 (-(rd y212 x19_2)))] 23 (0, 0)) (by (with_reducible repeat (first | refine blk_drewN ?_ _ | refine blk_drew ?_ | refine blk_alloc ?_ _)); exact BK216.out) hb); have n3_ := Aside0.mk (below_step (by repeat (first | (with_reducible first | exact HB.out | apply below_alloc | apply pw_below_drewN | apply below_drew1 | refine below_set ?_ GE216.out) | exact HB.out)) hb); clear HO_11; clear HO_17; clear BK216; clear HB; have HO_11 := n0_; have HO_17 := n1_; have BK216 := n2_; have HB := n3_; clear n0_ n1_ n2_ n3_; (try clear hb); (try clear hb2); (try clear hk); (try clear hi); have hcz22_0 : w21.cell? ⟨gb216, 0, none⟩ = some (.int .i64 (rd y208 x13_1)) := (blk_cell BK216.out 0).trans rfl; have hcz22_1 : w21.cell? ⟨gb216, 1, none⟩ = some (.int .i64 (rd y212 x19_2)) := (blk_cell BK216.out 1).trans rfl; have hcz22_2 : w21.cell? ⟨gb216, 2, none⟩ = some (.int .i64 (wrap64 (65536 - (rd y208 x13_1)))) := (blk_cell BK216.out 2).trans rfl; have hcz22_3 : w21.cell? ⟨gb216, 3, none⟩ = some (.int .i64 (wrap64 (-(rd y212 x19_2)))) := (blk_cell BK216.out 3).trans rfl; have hfz22_0 := blk_frozen BK216.out 0; have hfz22_1 := blk_frozen BK216.out 1; have hfz22_2 := blk_frozen BK216.out 2; have hfz22_3 := blk_frozen BK216.out 3) | (go_at_call 23; (with_reducible refine (mutoscopelaw4_same.calls k3 (rd y208 x13_1) (rd y212 x19_2) (wrap64 (65536 - (rd y208 x13_1))) (wrap64 (-(rd y212 x19_2))) (wrap64 ((wrap64 (Int.tdiv (wrap64 (x6_3 * 65536)) 64)) - 1)) true _ A18.out).mono ?_); rintro e w23 ⟨rfl, hb⟩; have n0_ := Aside0.mk (Kd.R_below (by (with_reducible repeat (first | apply Kd.R_alloc | apply Kd.R_drewN | apply Kd.R_drew)); exact HO_11.out) hb); have n1_ := Aside0.mk (Kd.R_below (by (with_reducible repeat (first | apply Kd.R_alloc | apply Kd.R_drewN | apply Kd.R_drew)); exact HO_17.out) hb); have n2_ := Aside0.mk (blk_below (g := gb216) (o := .cells #[.int .i64 (rd y208 x13_1), .int .i64 (rd y212 x19_2), .int .i64 (wrap64 (65536 - (rd y208 x13_1))), .int .i64 (wrap64 (-(rd y212 x19_2)))] 23 (0, 0)) (by (with_reducible repeat (first | refine blk_drewN ?_ _ | refine blk_drew ?_ | refine blk_alloc ?_ _)); exact BK216.out) hb); have n3_ := Aside0.mk (below_step (by repeat (first | (with_reducible first | exact HB.out | apply below_alloc | apply pw_below_drewN | apply below_drew1 | refine below_set ?_ GE216.out) | exact HB.out)) hb); clear HO_11; clear HO_17; clear BK216; clear HB; have HO_11 := n0_; have HO_17 := n1_; have BK216 := n2_; have HB := n3_; clear n0_ n1_ n2_ n3_; (try clear hb); (try clear hb2); (try clear hk); (try clear hi))))
                                go_roundg k3
                                case measure => have := HK1.out; have := HK2.out; have := HK3.out; omega
                                case rel => exact ⟨(wrap64 (x6_3 + 1)), (by first | rfl | (simp; done) | (simp [*]; done)), H', ⟨by have := HK1.out; have := HK2.out; have := HK3.out; omega⟩, ⟨by (with_reducible repeat (first | apply Kd.R_alloc | apply Kd.R_drewN | apply Kd.R_drew)); exact HO_11.out⟩, ⟨by (with_reducible repeat (first | apply Kd.R_alloc | apply Kd.R_drewN | apply Kd.R_drew)); exact HO_17.out⟩, ⟨by (with_reducible repeat (first | refine blk_drewN ?_ _ | refine blk_drew ?_ | refine blk_alloc ?_ _)); exact BK216.out⟩, ⟨by repeat (first | (with_reducible first | exact HB.out | apply below_alloc | apply pw_below_drewN | apply below_drew1 | refine below_set ?_ GE216.out) | exact HB.out)⟩⟩
                              · replace c19 := Bool.eq_false_iff.mpr c19
                                subst c19
                                have H1 : (none) = some r := by rw [if_neg (show ¬ (false = true) by decide)] at H; exact H
                                clear H
                                have H := H1
                                clear H1
                                exact absurd H (by simp)
                            · replace c17 := Bool.eq_false_iff.mpr c17
                              subst c17
                              have H1 : (none) = some r := by rw [if_neg (show ¬ (false = true) by decide)] at H; exact H
                              clear H
                              have H := H1
                              clear H1
                              exact absurd H (by simp)
                          · rw [if_neg c15] at H
                            have c15b0 : decide (x6_3 ≤ 66) = false := decide_eq_false c15
                            clear c15
                            have H' := Aside0.mk H
                            clear H
                            go_wp2
                            repeat (go_quiet (fail); try go_wp2)
                            go_roundg k3
                            case measure => have := HK1.out; have := HK2.out; have := HK3.out; omega
                            case rel => exact ⟨(wrap64 (x19_2 + 1)), (by first | rfl | (simp; done) | (simp [*]; done)), H', ⟨by have := HK1.out; have := HK2.out; have := HK3.out; omega⟩, ⟨by (with_reducible repeat (first | apply Kd.R_alloc | apply Kd.R_drewN | apply Kd.R_drew)); exact HO_11.out⟩, ⟨by (with_reducible repeat (first | apply Kd.R_alloc | apply Kd.R_drewN | apply Kd.R_drew)); exact HO_17.out⟩, ⟨by repeat (first | (with_reducible first | exact HB.out | apply below_alloc | apply pw_below_drewN | apply below_drew1 | refine below_set ?_ GE216.out) | exact HB.out)⟩⟩
                    · rw [if_neg c12] at H
                      exact absurd H (by simp)
                  · rw [if_neg c11] at H
                    exact absurd H (by simp)
                · rw [if_neg c10] at H
                  have c10b0 : decide (x19_2 < (y212.length : Int)) = false := decide_eq_false c10
                  clear c10
                  have H' := Aside0.mk H
                  clear H
                  go_wp2
                  repeat (go_quiet (fail); try go_wp2)
                  go_roundg k2
                  case measure => have := HK1.out; have := HK2.out; omega
                  case rel => exact ⟨(wrap64 (x13_1 + 1)), (by first | rfl | (simp; done) | (simp [*]; done)), H', ⟨by have := HK1.out; have := HK2.out; omega⟩, ⟨by (with_reducible repeat (first | apply Kd.R_alloc | apply Kd.R_drewN | apply Kd.R_drew)); exact Kd.R_mono HO_11.out (fun _ hk => trivial)⟩, ⟨by repeat (first | (with_reducible first | exact HB.out | apply below_alloc | apply pw_below_drewN | apply below_drew1) | exact HB.out)⟩⟩
          · rw [if_neg c6] at H
            exact absurd H (by simp)
        · rw [if_neg c5] at H
          exact absurd H (by simp)
      · rw [if_neg c4] at H
        have c4b0 : decide (x13_1 < (y208.length : Int)) = false := decide_eq_false c4
        clear c4
        obtain ⟨y219, hy219⟩ : ∃ y_ : List Int, y_ = (([(-9223372036854775808), (-9223372036854775807), (-1073741824), (-1), 0, 1, 2, 7, 1073741824, 4611686018427387909, 9223372036854775807] : List Int)) := ⟨_, rfl⟩
        replace H : (mutoscopelaw4_EaseNumbers.l3 k1 y219 (y219.length : Int) 0) = some r := by first | (rw [hy219]; with_reducible exact H) | (have H2_ := (Option.bind_some _ _).symm.trans H; rw [hy219]; with_reducible exact H2_) | (have H2_ := (Option.bind_some _ _).symm.trans H; with_reducible exact H2_) | with_reducible exact H | (rw [hy219]; exact H) | exact H
        have Ny219 := Aside0.mk hy219
        clear hy219
        have H' := Aside0.mk H
        clear H
        go_wp2_with (first | ((with_reducible refine gate_dst (N := 51) rfl ?_); refine Kd.R_lit (Kd.int .i64) _ 2 ?hg (N := 51) ?hd (xs := ([(-9223372036854775808), (-9223372036854775807), (-1073741824), (-1), 0, 1, 2, 7, 1073741824, 4611686018427387909, 9223372036854775807] : List Int)) (inner := [.int .i64 (-9223372036854775808), .int .i64 (-9223372036854775807), .int .i64 (-1073741824), .int .i64 (-1), .int .i64 0, .int .i64 1, .int .i64 2, .int .i64 7, .int .i64 1073741824, .int .i64 4611686018427387909, .int .i64 9223372036854775807]) (ok := fun _ => True) (okp := fun _ => True) ?hr ?hp (fun _ hk => hk) trivial (Below.refl _ _) (Nat.le_refl _) (by simp) ?_; (case hd => rfl); (case hg => rfl); (case hr => first | (go_simp; done) | (go_simp; rfl)); (case hp => exact (Reps.one (show Kd.M (Kd.int .i64) _ _ _ (-9223372036854775808) [.int .i64 (-9223372036854775808)] from rfl) (Reps.one (show Kd.M (Kd.int .i64) _ _ _ (-9223372036854775807) [.int .i64 (-9223372036854775807)] from rfl) (Reps.one (show Kd.M (Kd.int .i64) _ _ _ (-1073741824) [.int .i64 (-1073741824)] from rfl) (Reps.one (show Kd.M (Kd.int .i64) _ _ _ (-1) [.int .i64 (-1)] from rfl) (Reps.one (show Kd.M (Kd.int .i64) _ _ _ 0 [.int .i64 0] from rfl) (Reps.one (show Kd.M (Kd.int .i64) _ _ _ 1 [.int .i64 1] from rfl) (Reps.one (show Kd.M (Kd.int .i64) _ _ _ 2 [.int .i64 2] from rfl) (Reps.one (show Kd.M (Kd.int .i64) _ _ _ 7 [.int .i64 7] from rfl) (Reps.one (show Kd.M (Kd.int .i64) _ _ _ 1073741824 [.int .i64 1073741824] from rfl) (Reps.one (show Kd.M (Kd.int .i64) _ _ _ 4611686018427387909 [.int .i64 4611686018427387909] from rfl) (Reps.one (show Kd.M (Kd.int .i64) _ _ _ 9223372036854775807 [.int .i64 9223372036854775807] from rfl) (Reps.none _ _))))))))))))); intro v220 w24 ho25 hb hg_ hnew_; clear hg_ hnew_; (first | rw [← Ny219.out] at ho25 | (simp only [Int.reduceToNat] at ho25; rw [← Ny219.out] at ho25)); have n0_ := Aside0.mk (Kd.R_elder' (by (with_reducible repeat (first | apply Kd.R_alloc | apply Kd.R_drewN | apply Kd.R_drew)); exact HO_11.out) (Kd.R_base ho25) hb); have n1_ := Aside0.mk (Kd.R_lower (Kd.R_new' ho25 (Kd.R_lt (by (with_reducible repeat (first | apply Kd.R_alloc | apply Kd.R_drewN | apply Kd.R_drew)); exact HO_11.out))) (below_size (by repeat (first | (with_reducible first | exact HB.out | apply below_alloc | apply pw_below_drewN | apply below_drew1) | exact HB.out)))); have n2_ := Aside0.mk (below_step (by repeat (first | (with_reducible first | exact HB.out | apply below_alloc | apply pw_below_drewN | apply below_drew1) | exact HB.out)) hb); clear HO_11; clear HB; have HO_11 := n0_; have HO221 := n1_; have HB := n2_; clear n0_ n1_ n2_; clear hb ho25; obtain ⟨Ao26, co26, eo26⟩ := Kd.R_slice HO221.out; subst eo26))
        repeat (go_quiet (first | ((with_reducible refine gate_dst (N := 51) rfl ?_); refine Kd.R_lit (Kd.int .i64) _ 2 ?hg (N := 51) ?hd (xs := ([(-9223372036854775808), (-9223372036854775807), (-1073741824), (-1), 0, 1, 2, 7, 1073741824, 4611686018427387909, 9223372036854775807] : List Int)) (inner := [.int .i64 (-9223372036854775808), .int .i64 (-9223372036854775807), .int .i64 (-1073741824), .int .i64 (-1), .int .i64 0, .int .i64 1, .int .i64 2, .int .i64 7, .int .i64 1073741824, .int .i64 4611686018427387909, .int .i64 9223372036854775807]) (ok := fun _ => True) (okp := fun _ => True) ?hr ?hp (fun _ hk => hk) trivial (Below.refl _ _) (Nat.le_refl _) (by simp) ?_; (case hd => rfl); (case hg => rfl); (case hr => first | (go_simp; done) | (go_simp; rfl)); (case hp => exact (Reps.one (show Kd.M (Kd.int .i64) _ _ _ (-9223372036854775808) [.int .i64 (-9223372036854775808)] from rfl) (Reps.one (show Kd.M (Kd.int .i64) _ _ _ (-9223372036854775807) [.int .i64 (-9223372036854775807)] from rfl) (Reps.one (show Kd.M (Kd.int .i64) _ _ _ (-1073741824) [.int .i64 (-1073741824)] from rfl) (Reps.one (show Kd.M (Kd.int .i64) _ _ _ (-1) [.int .i64 (-1)] from rfl) (Reps.one (show Kd.M (Kd.int .i64) _ _ _ 0 [.int .i64 0] from rfl) (Reps.one (show Kd.M (Kd.int .i64) _ _ _ 1 [.int .i64 1] from rfl) (Reps.one (show Kd.M (Kd.int .i64) _ _ _ 2 [.int .i64 2] from rfl) (Reps.one (show Kd.M (Kd.int .i64) _ _ _ 7 [.int .i64 7] from rfl) (Reps.one (show Kd.M (Kd.int .i64) _ _ _ 1073741824 [.int .i64 1073741824] from rfl) (Reps.one (show Kd.M (Kd.int .i64) _ _ _ 4611686018427387909 [.int .i64 4611686018427387909] from rfl) (Reps.one (show Kd.M (Kd.int .i64) _ _ _ 9223372036854775807 [.int .i64 9223372036854775807] from rfl) (Reps.none _ _))))))))))))); intro v220 w24 ho25 hb hg_ hnew_; clear hg_ hnew_; (first | rw [← Ny219.out] at ho25 | (simp only [Int.reduceToNat] at ho25; rw [← Ny219.out] at ho25)); have n0_ := Aside0.mk (Kd.R_elder' (by (with_reducible repeat (first | apply Kd.R_alloc | apply Kd.R_drewN | apply Kd.R_drew)); exact HO_11.out) (Kd.R_base ho25) hb); have n1_ := Aside0.mk (Kd.R_lower (Kd.R_new' ho25 (Kd.R_lt (by (with_reducible repeat (first | apply Kd.R_alloc | apply Kd.R_drewN | apply Kd.R_drew)); exact HO_11.out))) (below_size (by repeat (first | (with_reducible first | exact HB.out | apply below_alloc | apply pw_below_drewN | apply below_drew1) | exact HB.out)))); have n2_ := Aside0.mk (below_step (by repeat (first | (with_reducible first | exact HB.out | apply below_alloc | apply pw_below_drewN | apply below_drew1) | exact HB.out)) hb); clear HO_11; clear HB; have HO_11 := n0_; have HO221 := n1_; have HB := n2_; clear n0_ n1_ n2_; clear hb ho25; obtain ⟨Ao26, co26, eo26⟩ := Kd.R_slice HO221.out; subst eo26)); try go_wp2_with (first | ((with_reducible refine gate_dst (N := 51) rfl ?_); refine Kd.R_lit (Kd.int .i64) _ 2 ?hg (N := 51) ?hd (xs := ([(-9223372036854775808), (-9223372036854775807), (-1073741824), (-1), 0, 1, 2, 7, 1073741824, 4611686018427387909, 9223372036854775807] : List Int)) (inner := [.int .i64 (-9223372036854775808), .int .i64 (-9223372036854775807), .int .i64 (-1073741824), .int .i64 (-1), .int .i64 0, .int .i64 1, .int .i64 2, .int .i64 7, .int .i64 1073741824, .int .i64 4611686018427387909, .int .i64 9223372036854775807]) (ok := fun _ => True) (okp := fun _ => True) ?hr ?hp (fun _ hk => hk) trivial (Below.refl _ _) (Nat.le_refl _) (by simp) ?_; (case hd => rfl); (case hg => rfl); (case hr => first | (go_simp; done) | (go_simp; rfl)); (case hp => exact (Reps.one (show Kd.M (Kd.int .i64) _ _ _ (-9223372036854775808) [.int .i64 (-9223372036854775808)] from rfl) (Reps.one (show Kd.M (Kd.int .i64) _ _ _ (-9223372036854775807) [.int .i64 (-9223372036854775807)] from rfl) (Reps.one (show Kd.M (Kd.int .i64) _ _ _ (-1073741824) [.int .i64 (-1073741824)] from rfl) (Reps.one (show Kd.M (Kd.int .i64) _ _ _ (-1) [.int .i64 (-1)] from rfl) (Reps.one (show Kd.M (Kd.int .i64) _ _ _ 0 [.int .i64 0] from rfl) (Reps.one (show Kd.M (Kd.int .i64) _ _ _ 1 [.int .i64 1] from rfl) (Reps.one (show Kd.M (Kd.int .i64) _ _ _ 2 [.int .i64 2] from rfl) (Reps.one (show Kd.M (Kd.int .i64) _ _ _ 7 [.int .i64 7] from rfl) (Reps.one (show Kd.M (Kd.int .i64) _ _ _ 1073741824 [.int .i64 1073741824] from rfl) (Reps.one (show Kd.M (Kd.int .i64) _ _ _ 4611686018427387909 [.int .i64 4611686018427387909] from rfl) (Reps.one (show Kd.M (Kd.int .i64) _ _ _ 9223372036854775807 [.int .i64 9223372036854775807] from rfl) (Reps.none _ _))))))))))))); intro v220 w24 ho25 hb hg_ hnew_; clear hg_ hnew_; (first | rw [← Ny219.out] at ho25 | (simp only [Int.reduceToNat] at ho25; rw [← Ny219.out] at ho25)); have n0_ := Aside0.mk (Kd.R_elder' (by (with_reducible repeat (first | apply Kd.R_alloc | apply Kd.R_drewN | apply Kd.R_drew)); exact HO_11.out) (Kd.R_base ho25) hb); have n1_ := Aside0.mk (Kd.R_lower (Kd.R_new' ho25 (Kd.R_lt (by (with_reducible repeat (first | apply Kd.R_alloc | apply Kd.R_drewN | apply Kd.R_drew)); exact HO_11.out))) (below_size (by repeat (first | (with_reducible first | exact HB.out | apply below_alloc | apply pw_below_drewN | apply below_drew1) | exact HB.out)))); have n2_ := Aside0.mk (below_step (by repeat (first | (with_reducible first | exact HB.out | apply below_alloc | apply pw_below_drewN | apply below_drew1) | exact HB.out)) hb); clear HO_11; clear HB; have HO_11 := n0_; have HO221 := n1_; have HB := n2_; clear n0_ n1_ n2_; clear hb ho25; obtain ⟨Ao26, co26, eo26⟩ := Kd.R_slice HO221.out; subst eo26)))
        go_loopg [54] k1 (fun kq v54 w' => ∃ (x54_2 : Int), v54 = .int .i64 x54_2 ∧ Aside0 (mutoscopelaw4_EaseNumbers.l3 kq y219 (y219.length : Int) x54_2 = some r) ∧ Aside0 (kq ≤ k1) ∧ Aside0 (Kd.R (Kd.int .i64) 2 w' w.heap.size (fun _ => True) (.slice Ao26 y219.length co26) y219) ∧ Aside0 (Below w.heap.size w w'))
        case atStart => exact ⟨(0), (by first | rfl | (simp; done) | (simp [*]; done)), H', ⟨Nat.le_refl _⟩, ⟨by (with_reducible repeat (first | apply Kd.R_alloc | apply Kd.R_drewN | apply Kd.R_drew)); exact Kd.R_mono HO221.out (fun _ hk => trivial)⟩, ⟨by repeat (first | (with_reducible first | exact HB.out | apply below_alloc | apply pw_below_drewN | apply below_drew1) | exact HB.out)⟩⟩
        case round =>
          clear H'
          try clear c1
          try clear p2
          try clear q2
          try clear hx2
          try clear c4
          try clear c4b0
          try clear c5
          try clear c5b0
          try clear c6
          try clear c6b0
          try clear p6
          try clear c9
          try clear c10
          try clear c10b0
          try clear c11
          try clear c11b0
          try clear c12
          try clear c12b0
          try clear c15
          try clear c15b0
          try clear c17
          try clear c19
          try clear p21
          try clear q21
          try clear hx21
          try clear hcz14_0
          try clear hcz14_1
          try clear hcz14_2
          try clear hcz14_3
          try clear hcz20_0
          try clear hcz20_1
          try clear hcz20_2
          try clear hcz20_3
          try clear hcz22_0
          try clear hcz22_1
          try clear hcz22_2
          try clear hcz22_3
          try clear hfz14_0
          try clear hfz14_1
          try clear hfz14_2
          try clear hfz14_3
          try clear hfz20_0
          try clear hfz20_1
          try clear hfz20_2
          try clear hfz20_3
          try clear hfz22_0
          try clear hfz22_1
          try clear hfz22_2
          try clear hfz22_3
          try clear hx211_0
          try clear hx215_0
          try clear p2
          try clear p211
          try clear p215
          try clear p6
          try clear q2
          try clear q211
          try clear q215
          obtain ⟨x54_2, rfl, HA, HK2, HO_7, HB⟩ := hrel
          cases gk with
          | zero => exact absurd HA.out (by simp [mutoscopelaw4_EaseNumbers.l3])
          | succ k2 =>
            have H := HA.out
            clear HA
            simp only [mutoscopelaw4_EaseNumbers.l3] at H
            by_cases c27 : x54_2 < (y219.length : Int)
            · rw [if_pos c27] at H
              have c27b0 : decide (x54_2 < (y219.length : Int)) = true := decide_eq_true c27
              clear c27
              have H' := Aside0.mk H
              clear H
              go_wp2
              repeat (go_quiet (fail); try go_wp2)
              go_loopg [59] k2 (fun kq v59 w' => ∃ (x59_3 : Int), v59 = .int .i64 x59_3 ∧ Aside0 (mutoscopelaw4_EaseNumbers.l4 kq y219 x54_2 (y219.length : Int) x54_2 (y219.length : Int) x59_3 = some r) ∧ Aside0 (kq ≤ k2) ∧ Aside0 (Kd.R (Kd.int .i64) 2 w' w.heap.size (fun _ => True) (.slice Ao26 y219.length co26) y219) ∧ Aside0 (Below w.heap.size w w'))
              case atStart => exact ⟨(0), (by first | rfl | (simp; done) | (simp [*]; done)), H', ⟨Nat.le_refl _⟩, ⟨by (with_reducible repeat (first | apply Kd.R_alloc | apply Kd.R_drewN | apply Kd.R_drew)); exact HO_7.out⟩, ⟨by repeat (first | (with_reducible first | exact HB.out | apply below_alloc | apply pw_below_drewN | apply below_drew1) | exact HB.out)⟩⟩
              case round =>
                clear H'
                try clear c1
                try clear c2
                try clear p2
                try clear q2
                try clear hx2
                try clear c4
                try clear c4b0
                try clear c5
                try clear c5b0
                try clear c6
                try clear c6b0
                try clear p6
                try clear c9
                try clear c10
                try clear c10b0
                try clear c11
                try clear c11b0
                try clear c12
                try clear c12b0
                try clear c15
                try clear c15b0
                try clear c17
                try clear c19
                try clear p21
                try clear q21
                try clear hx21
                try clear c27
                try clear c27b0
                try clear hcz14_0
                try clear hcz14_1
                try clear hcz14_2
                try clear hcz14_3
                try clear hcz20_0
                try clear hcz20_1
                try clear hcz20_2
                try clear hcz20_3
                try clear hcz22_0
                try clear hcz22_1
                try clear hcz22_2
                try clear hcz22_3
                try clear hfz14_0
                try clear hfz14_1
                try clear hfz14_2
                try clear hfz14_3
                try clear hfz20_0
                try clear hfz20_1
                try clear hfz20_2
                try clear hfz20_3
                try clear hfz22_0
                try clear hfz22_1
                try clear hfz22_2
                try clear hfz22_3
                try clear hx211_0
                try clear hx215_0
                try clear p2
                try clear p21
                try clear p211
                try clear p215
                try clear p6
                try clear q2
                try clear q21
                try clear q211
                try clear q215
                obtain ⟨x59_3, rfl, HA, HK3, HO_7, HB⟩ := hrel
                cases gk with
                | zero => exact absurd HA.out (by simp [mutoscopelaw4_EaseNumbers.l4])
                | succ k3 =>
                  have H := HA.out
                  clear HA
                  simp only [mutoscopelaw4_EaseNumbers.l4] at H
                  by_cases c28 : x59_3 < (y219.length : Int)
                  · rw [if_pos c28] at H
                    have c28b0 : decide (x59_3 < (y219.length : Int)) = true := decide_eq_true c28
                    clear c28
                    have H' := Aside0.mk H
                    clear H
                    go_wp2
                    repeat (go_quiet (fail); try go_wp2)
                    go_loopg [64] k3 (fun kq v64 w' => ∃ (x64_4 : Int), v64 = .int .i64 x64_4 ∧ Aside0 (mutoscopelaw4_EaseNumbers.l5 kq y219 x54_2 x59_3 (y219.length : Int) x54_2 (y219.length : Int) x59_3 (y219.length : Int) x64_4 = some r) ∧ Aside0 (kq ≤ k3) ∧ Aside0 (Kd.R (Kd.int .i64) 2 w' w.heap.size (fun _ => True) (.slice Ao26 y219.length co26) y219) ∧ Aside0 (Below w.heap.size w w'))
                    case atStart => exact ⟨(0), (by first | rfl | (simp; done) | (simp [*]; done)), H', ⟨Nat.le_refl _⟩, ⟨by (with_reducible repeat (first | apply Kd.R_alloc | apply Kd.R_drewN | apply Kd.R_drew)); exact HO_7.out⟩, ⟨by repeat (first | (with_reducible first | exact HB.out | apply below_alloc | apply pw_below_drewN | apply below_drew1) | exact HB.out)⟩⟩
                    case round =>
                      clear H'
                      try clear c1
                      try clear c2
                      try clear p2
                      try clear q2
                      try clear hx2
                      try clear c4
                      try clear c4b0
                      try clear c5
                      try clear c5b0
                      try clear c6
                      try clear c6b0
                      try clear p6
                      try clear c9
                      try clear c10
                      try clear c10b0
                      try clear c11
                      try clear c11b0
                      try clear c12
                      try clear c12b0
                      try clear c15
                      try clear c15b0
                      try clear c17
                      try clear c19
                      try clear p21
                      try clear q21
                      try clear hx21
                      try clear c27
                      try clear c27b0
                      try clear c28
                      try clear c28b0
                      try clear hcz14_0
                      try clear hcz14_1
                      try clear hcz14_2
                      try clear hcz14_3
                      try clear hcz20_0
                      try clear hcz20_1
                      try clear hcz20_2
                      try clear hcz20_3
                      try clear hcz22_0
                      try clear hcz22_1
                      try clear hcz22_2
                      try clear hcz22_3
                      try clear hfz14_0
                      try clear hfz14_1
                      try clear hfz14_2
                      try clear hfz14_3
                      try clear hfz20_0
                      try clear hfz20_1
                      try clear hfz20_2
                      try clear hfz20_3
                      try clear hfz22_0
                      try clear hfz22_1
                      try clear hfz22_2
                      try clear hfz22_3
                      try clear hx211_0
                      try clear hx215_0
                      try clear p2
                      try clear p21
                      try clear p211
                      try clear p215
                      try clear p6
                      try clear q2
                      try clear q21
                      try clear q211
                      try clear q215
                      obtain ⟨x64_4, rfl, HA, HK4, HO_7, HB⟩ := hrel
                      cases gk with
                      | zero => exact absurd HA.out (by simp [mutoscopelaw4_EaseNumbers.l5])
                      | succ k4 =>
                        have H := HA.out
                        clear HA
                        simp only [mutoscopelaw4_EaseNumbers.l5] at H
                        by_cases c29 : x64_4 < (y219.length : Int)
                        · rw [if_pos c29] at H
                          have c29b0 : decide (x64_4 < (y219.length : Int)) = true := decide_eq_true c29
                          clear c29
                          by_cases c30 : 0 ≤ x54_2
                          · rw [if_pos c30] at H
                            have c30b0 : decide (0 ≤ x54_2) = true := decide_eq_true c30
                            clear c30
                            by_cases c31 : x54_2 < (y219.length : Int)
                            · rw [if_pos c31] at H
                              have c31b0 : decide (x54_2 < (y219.length : Int)) = true := decide_eq_true c31
                              clear c31
                              by_cases c32 : 0 ≤ x59_3
                              · rw [if_pos c32] at H
                                have c32b0 : decide (0 ≤ x59_3) = true := decide_eq_true c32
                                clear c32
                                by_cases c33 : x59_3 < (y219.length : Int)
                                · rw [if_pos c33] at H
                                  have c33b0 : decide (x59_3 < (y219.length : Int)) = true := decide_eq_true c33
                                  clear c33
                                  by_cases c34 : 0 ≤ x64_4
                                  · rw [if_pos c34] at H
                                    have c34b0 : decide (0 ≤ x64_4) = true := decide_eq_true c34
                                    clear c34
                                    by_cases c35 : x64_4 < (y219.length : Int)
                                    · rw [if_pos c35] at H
                                      have c35b0 : decide (x64_4 < (y219.length : Int)) = true := decide_eq_true c35
                                      clear c35
                                      replace H := Option.bind_eq_some_iff.mp H
                                      obtain ⟨t226, A360, H⟩ := H
                                      replace H : ((mutoscoperef5_Part.f (rd y219 x54_2) (rd y219 x59_3) (rd y219 x64_4)).bind fun t230 => (if t226 = t230 then (mutoscopelaw4_EaseNumbers.l5 k4 y219 x54_2 x59_3 (y219.length : Int) x54_2 (y219.length : Int) x59_3 (y219.length : Int) (wrap64 (x64_4 + 1))) else (none))) = some r := H
                                      have A36 := Aside0.mk A360
                                      clear A360
                                      replace H := Option.bind_eq_some_iff.mp H
                                      obtain ⟨t230, A370, H⟩ := H
                                      replace H : (if t226 = t230 then (mutoscopelaw4_EaseNumbers.l5 k4 y219 x54_2 x59_3 (y219.length : Int) x54_2 (y219.length : Int) x59_3 (y219.length : Int) (wrap64 (x64_4 + 1))) else (none)) = some r := H
                                      have A37 := Aside0.mk A370
                                      clear A370
                                      by_cases c38 : t226 = t230
                                      · rw [if_pos c38] at H
                                        have c38b0 : (t226 == t230) = true := beq_iff_eq.mpr c38
                                        have c38b1 : (t226 != t230) = false := bne_eq_false_iff_eq.mpr c38
                                        clear c38
                                        have H' := Aside0.mk H
                                        clear H
                                        have p223 : 0 ≤ (x54_2 : Int) := of_decide_eq_true (by first | (with_reducible assumption) | assumption)
                                        have q223 : x54_2 < (y219.length : Int) := of_decide_eq_true (by first | (with_reducible assumption) | assumption)
                                        obtain ⟨ad223, e223, hx223_0⟩ := Kd.at_int (Kd.R_reads' HO_7.out).2.2 x54_2 p223 q223
                                        cases e223
                                        replace p223 := eq_true p223
                                        replace q223 := eq_true q223
                                        have p224 : 0 ≤ (x59_3 : Int) := of_decide_eq_true (by first | (with_reducible assumption) | assumption)
                                        have q224 : x59_3 < (y219.length : Int) := of_decide_eq_true (by first | (with_reducible assumption) | assumption)
                                        obtain ⟨ad224, e224, hx224_0⟩ := Kd.at_int (Kd.R_reads' HO_7.out).2.2 x59_3 p224 q224
                                        obtain rfl : ad223 = ad224 := (by injection e224)
                                        replace p224 := eq_true p224
                                        replace q224 := eq_true q224
                                        have p225 : 0 ≤ (x64_4 : Int) := of_decide_eq_true (by first | (with_reducible assumption) | assumption)
                                        have q225 : x64_4 < (y219.length : Int) := of_decide_eq_true (by first | (with_reducible assumption) | assumption)
                                        obtain ⟨ad225, e225, hx225_0⟩ := Kd.at_int (Kd.R_reads' HO_7.out).2.2 x64_4 p225 q225
                                        obtain rfl : ad223 = ad225 := (by injection e225)
                                        replace p225 := eq_true p225
                                        replace q225 := eq_true q225
                                        go_wp2_with (first | (go_at_call 15; (with_reducible refine (ease_Part.calls (rd y219 x54_2) (rd y219 x59_3) (rd y219 x64_4) t226 _ A36.out).mono ?_); rintro e w' ⟨rfl, ⟨nd, rfl⟩⟩; (try first | exact ⟨rfl, _, World.drewN_drewN _ _ _⟩ | exact ⟨rfl, _, Eq.trans (World.drewN_drewN _ _ _) (congrArg (World.drewN _) (Nat.add_assoc _ _ _))⟩); have p227 : 0 ≤ (x54_2 : Int) := of_decide_eq_true (by first | (with_reducible assumption) | assumption); have q227 : x54_2 < (y219.length : Int) := of_decide_eq_true (by first | (with_reducible assumption) | assumption); obtain ⟨ad227, e227, hx227_0⟩ := Kd.at_int (Kd.R_reads' HO_7.out).2.2 x54_2 p227 q227; obtain rfl : ad223 = ad227 := (by injection e227); replace p227 := eq_true p227; replace q227 := eq_true q227; have p228 : 0 ≤ (x59_3 : Int) := of_decide_eq_true (by first | (with_reducible assumption) | assumption); have q228 : x59_3 < (y219.length : Int) := of_decide_eq_true (by first | (with_reducible assumption) | assumption); obtain ⟨ad228, e228, hx228_0⟩ := Kd.at_int (Kd.R_reads' HO_7.out).2.2 x59_3 p228 q228; obtain rfl : ad223 = ad228 := (by injection e228); replace p228 := eq_true p228; replace q228 := eq_true q228; have p229 : 0 ≤ (x64_4 : Int) := of_decide_eq_true (by first | (with_reducible assumption) | assumption); have q229 : x64_4 < (y219.length : Int) := of_decide_eq_true (by first | (with_reducible assumption) | assumption); obtain ⟨ad229, e229, hx229_0⟩ := Kd.at_int (Kd.R_reads' HO_7.out).2.2 x64_4 p229 q229; obtain rfl : ad223 = ad229 := (by injection e229); replace p229 := eq_true p229; replace q229 := eq_true q229) | (go_at_call 24; (with_reducible refine (mutoscoperef5_Part.calls (rd y219 x54_2) (rd y219 x59_3) (rd y219 x64_4) t230 _ A37.out).mono ?_); rintro e w' ⟨rfl, ⟨nd, rfl⟩⟩; (try first | exact ⟨rfl, _, World.drewN_drewN _ _ _⟩ | exact ⟨rfl, _, Eq.trans (World.drewN_drewN _ _ _) (congrArg (World.drewN _) (Nat.add_assoc _ _ _))⟩)))
                                        repeat (go_quiet (first | (go_at_call 15; (with_reducible refine (ease_Part.calls (rd y219 x54_2) (rd y219 x59_3) (rd y219 x64_4) t226 _ A36.out).mono ?_); rintro e w' ⟨rfl, ⟨nd, rfl⟩⟩; (try first | exact ⟨rfl, _, World.drewN_drewN _ _ _⟩ | exact ⟨rfl, _, Eq.trans (World.drewN_drewN _ _ _) (congrArg (World.drewN _) (Nat.add_assoc _ _ _))⟩); have p227 : 0 ≤ (x54_2 : Int) := of_decide_eq_true (by first | (with_reducible assumption) | assumption); have q227 : x54_2 < (y219.length : Int) := of_decide_eq_true (by first | (with_reducible assumption) | assumption); obtain ⟨ad227, e227, hx227_0⟩ := Kd.at_int (Kd.R_reads' HO_7.out).2.2 x54_2 p227 q227; obtain rfl : ad223 = ad227 := (by injection e227); replace p227 := eq_true p227; replace q227 := eq_true q227; have p228 : 0 ≤ (x59_3 : Int) := of_decide_eq_true (by first | (with_reducible assumption) | assumption); have q228 : x59_3 < (y219.length : Int) := of_decide_eq_true (by first | (with_reducible assumption) | assumption); obtain ⟨ad228, e228, hx228_0⟩ := Kd.at_int (Kd.R_reads' HO_7.out).2.2 x59_3 p228 q228; obtain rfl : ad223 = ad228 := (by injection e228); replace p228 := eq_true p228; replace q228 := eq_true q228; have p229 : 0 ≤ (x64_4 : Int) := of_decide_eq_true (by first | (with_reducible assumption) | assumption); have q229 : x64_4 < (y219.length : Int) := of_decide_eq_true (by first | (with_reducible assumption) | assumption); obtain ⟨ad229, e229, hx229_0⟩ := Kd.at_int (Kd.R_reads' HO_7.out).2.2 x64_4 p229 q229; obtain rfl : ad223 = ad229 := (by injection e229); replace p229 := eq_true p229; replace q229 := eq_true q229) | (go_at_call 24; (with_reducible refine (mutoscoperef5_Part.calls (rd y219 x54_2) (rd y219 x59_3) (rd y219 x64_4) t230 _ A37.out).mono ?_); rintro e w' ⟨rfl, ⟨nd, rfl⟩⟩; (try first | exact ⟨rfl, _, World.drewN_drewN _ _ _⟩ | exact ⟨rfl, _, Eq.trans (World.drewN_drewN _ _ _) (congrArg (World.drewN _) (Nat.add_assoc _ _ _))⟩))); try go_wp2_with (first | (go_at_call 15; (with_reducible refine (ease_Part.calls (rd y219 x54_2) (rd y219 x59_3) (rd y219 x64_4) t226 _ A36.out).mono ?_); rintro e w' ⟨rfl, ⟨nd, rfl⟩⟩; (try first | exact ⟨rfl, _, World.drewN_drewN _ _ _⟩ | exact ⟨rfl, _, Eq.trans (World.drewN_drewN _ _ _) (congrArg (World.drewN _) (Nat.add_assoc _ _ _))⟩); have p227 : 0 ≤ (x54_2 : Int) := of_decide_eq_true (by first | (with_reducible assumption) | assumption); have q227 : x54_2 < (y219.length : Int) := of_decide_eq_true (by first | (with_reducible assumption) | assumption); obtain ⟨ad227, e227, hx227_0⟩ := Kd.at_int (Kd.R_reads' HO_7.out).2.2 x54_2 p227 q227; obtain rfl : ad223 = ad227 := (by injection e227); replace p227 := eq_true p227; replace q227 := eq_true q227; have p228 : 0 ≤ (x59_3 : Int) := of_decide_eq_true (by first | (with_reducible assumption) | assumption); have q228 : x59_3 < (y219.length : Int) := of_decide_eq_true (by first | (with_reducible assumption) | assumption); obtain ⟨ad228, e228, hx228_0⟩ := Kd.at_int (Kd.R_reads' HO_7.out).2.2 x59_3 p228 q228; obtain rfl : ad223 = ad228 := (by injection e228); replace p228 := eq_true p228; replace q228 := eq_true q228; have p229 : 0 ≤ (x64_4 : Int) := of_decide_eq_true (by first | (with_reducible assumption) | assumption); have q229 : x64_4 < (y219.length : Int) := of_decide_eq_true (by first | (with_reducible assumption) | assumption); obtain ⟨ad229, e229, hx229_0⟩ := Kd.at_int (Kd.R_reads' HO_7.out).2.2 x64_4 p229 q229; obtain rfl : ad223 = ad229 := (by injection e229); replace p229 := eq_true p229; replace q229 := eq_true q229) | (go_at_call 24; (with_reducible refine (mutoscoperef5_Part.calls (rd y219 x54_2) (rd y219 x59_3) (rd y219 x64_4) t230 _ A37.out).mono ?_); rintro e w' ⟨rfl, ⟨nd, rfl⟩⟩; (try first | exact ⟨rfl, _, World.drewN_drewN _ _ _⟩ | exact ⟨rfl, _, Eq.trans (World.drewN_drewN _ _ _) (congrArg (World.drewN _) (Nat.add_assoc _ _ _))⟩))))
                                        go_roundg k4
                                        case measure => have := HK1.out; have := HK2.out; have := HK3.out; have := HK4.out; omega
                                        case rel => exact ⟨(wrap64 (x64_4 + 1)), (by first | rfl | (simp; done) | (simp [*]; done)), H', ⟨by have := HK1.out; have := HK2.out; have := HK3.out; have := HK4.out; omega⟩, ⟨by (with_reducible repeat (first | apply Kd.R_alloc | apply Kd.R_drewN | apply Kd.R_drew)); exact HO_7.out⟩, ⟨by repeat (first | (with_reducible first | exact HB.out | apply below_alloc | apply pw_below_drewN | apply below_drew1) | exact HB.out)⟩⟩
                                      · rw [if_neg c38] at H
                                        exact absurd H (by simp)
                                    · rw [if_neg c35] at H
                                      exact absurd H (by simp)
                                  · rw [if_neg c34] at H
                                    exact absurd H (by simp)
                                · rw [if_neg c33] at H
                                  exact absurd H (by simp)
                              · rw [if_neg c32] at H
                                exact absurd H (by simp)
                            · rw [if_neg c31] at H
                              exact absurd H (by simp)
                          · rw [if_neg c30] at H
                            exact absurd H (by simp)
                        · rw [if_neg c29] at H
                          have c29b0 : decide (x64_4 < (y219.length : Int)) = false := decide_eq_false c29
                          clear c29
                          have H' := Aside0.mk H
                          clear H
                          go_wp2
                          repeat (go_quiet (fail); try go_wp2)
                          go_roundg k4
                          case measure => have := HK1.out; have := HK2.out; have := HK3.out; have := HK4.out; omega
                          case rel => exact ⟨(wrap64 (x59_3 + 1)), (by first | rfl | (simp; done) | (simp [*]; done)), H', ⟨by have := HK1.out; have := HK2.out; have := HK3.out; have := HK4.out; omega⟩, ⟨by (with_reducible repeat (first | apply Kd.R_alloc | apply Kd.R_drewN | apply Kd.R_drew)); exact HO_7.out⟩, ⟨by repeat (first | (with_reducible first | exact HB.out | apply below_alloc | apply pw_below_drewN | apply below_drew1) | exact HB.out)⟩⟩
                  · rw [if_neg c28] at H
                    have c28b0 : decide (x59_3 < (y219.length : Int)) = false := decide_eq_false c28
                    clear c28
                    have H' := Aside0.mk H
                    clear H
                    go_wp2
                    repeat (go_quiet (fail); try go_wp2)
                    go_roundg k3
                    case measure => have := HK1.out; have := HK2.out; have := HK3.out; omega
                    case rel => exact ⟨(wrap64 (x54_2 + 1)), (by first | rfl | (simp; done) | (simp [*]; done)), H', ⟨by have := HK1.out; have := HK2.out; have := HK3.out; omega⟩, ⟨by (with_reducible repeat (first | apply Kd.R_alloc | apply Kd.R_drewN | apply Kd.R_drew)); exact HO_7.out⟩, ⟨by repeat (first | (with_reducible first | exact HB.out | apply below_alloc | apply pw_below_drewN | apply below_drew1) | exact HB.out)⟩⟩
            · rw [if_neg c27] at H
              have c27b0 : decide (x54_2 < (y219.length : Int)) = false := decide_eq_false c27
              clear c27
              replace H := Option.bind_eq_some_iff.mp H
              obtain ⟨t222, A390, H⟩ := H
              replace H : (some t222) = some r := H
              have A39 := Aside0.mk A390
              clear A390
              obtain rfl := Option.some.inj H
              go_wp2_with (first | (go_at_call 14; (with_reducible refine (mutoscopelaw4_known.calls k2  t222 _ A39.out).mono ?_); rintro e w40 ⟨rfl, hb⟩; have n0_ := Aside0.mk (Kd.R_below (by (with_reducible repeat (first | apply Kd.R_alloc | apply Kd.R_drewN | apply Kd.R_drew)); exact HO_7.out) hb); have n1_ := Aside0.mk (below_step (by repeat (first | (with_reducible first | exact HB.out | apply below_alloc | apply pw_below_drewN | apply below_drew1) | exact HB.out)) hb); clear HO_7; clear HB; have HO_7 := n0_; have HB := n1_; clear n0_ n1_; (try clear hb); (try clear hb2); (try clear hk); (try clear hi)))
              repeat (go_quiet (first | (go_at_call 14; (with_reducible refine (mutoscopelaw4_known.calls k2  t222 _ A39.out).mono ?_); rintro e w40 ⟨rfl, hb⟩; have n0_ := Aside0.mk (Kd.R_below (by (with_reducible repeat (first | apply Kd.R_alloc | apply Kd.R_drewN | apply Kd.R_drew)); exact HO_7.out) hb); have n1_ := Aside0.mk (below_step (by repeat (first | (with_reducible first | exact HB.out | apply below_alloc | apply pw_below_drewN | apply below_drew1) | exact HB.out)) hb); clear HO_7; clear HB; have HO_7 := n0_; have HB := n1_; clear n0_ n1_; (try clear hb); (try clear hb2); (try clear hk); (try clear hi))); try go_wp2_with (first | (go_at_call 14; (with_reducible refine (mutoscopelaw4_known.calls k2  t222 _ A39.out).mono ?_); rintro e w40 ⟨rfl, hb⟩; have n0_ := Aside0.mk (Kd.R_below (by (with_reducible repeat (first | apply Kd.R_alloc | apply Kd.R_drewN | apply Kd.R_drew)); exact HO_7.out) hb); have n1_ := Aside0.mk (below_step (by repeat (first | (with_reducible first | exact HB.out | apply below_alloc | apply pw_below_drewN | apply below_drew1) | exact HB.out)) hb); clear HO_7; clear HB; have HO_7 := n0_; have HB := n1_; clear n0_ n1_; (try clear hb); (try clear hb2); (try clear hk); (try clear hi))))
              go_ret
              exact ⟨by first | rfl | (simp [errW_none, errW_some] <;> rfl) | (simp [*, errW_none, errW_some] <;> rfl), by repeat (first | (with_reducible first | exact HB.out | apply below_alloc | apply pw_below_drewN | apply below_drew1) | exact HB.out)⟩

/-- THE ONE PURE STATEMENT of mutoscopelaw4_EaseNumbers: yours. -/
def mutoscopelaw4_EaseNumbers.Pure : Prop := ∃ k, mutoscopelaw4_EaseNumbers.f k  = some true
theorem mutoscopelaw4_EaseNumbers.walk (P : mutoscopelaw4_EaseNumbers.Pure)  (w : World)  :
    Calls Try.prog 9 #[] w fun e w' => e = .returned (.bool true) ∧ Below w.heap.size w w' := by
  obtain ⟨k, h⟩ := P  
  refine (mutoscopelaw4_EaseNumbers.calls k  true w h).mono ?_
  rintro e w' ⟨rfl, hd⟩
  exact ⟨rfl, hd⟩

end Go.Proofs.Ytejnbjclcdmopaa.PA
