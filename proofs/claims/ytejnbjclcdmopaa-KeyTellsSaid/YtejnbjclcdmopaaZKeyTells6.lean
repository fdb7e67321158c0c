/- Lines of 12 texts of this seat, merged by wip/shake.py (a program of this session): what the statement's proof does not use is left out. -/
import Derived.Test.YtejnbjclcdmopaaZKeyTells5
import Derived.ChangeSame
import Derived.Deep.Fields
import Derived.Deep.Slices
import Derived.OpenShut

section
namespace Go.Proofs.Ytejnbjclcdmopaa.PA
open Go.RowKit Go.Proofs.YtejnbjclcdmopaaW.PrintWords Go.Proofs.YtejnbjclcdmopaaW.PrintLast Go.Proofs.YtejnbjclcdmopaaW.PrintMore
attribute [local go_sem] max2_int min2_int max_two min_two max_three min_three max_four min_four
attribute [local go_sem] Go.Proofs.Ytejnbjclcdmopaa.MS.isSome_setCell
set_option linter.unusedVariables false
set_option linter.unusedSimpArgs false
def mutoscopelaw5_same.f (k : Nat) (l0 : List (S34)) (a1 : Int) (a2 : Int) : Option (Bool) := (key_Right.f k l0).bind fun t443 => ((mutoscoperef5_Right.f k l0).bind fun t444 => (if (t443 == t444) = true then ((key_Find.f k l0 a1).bind fun t445 => ((mutoscoperef5_Find.f k l0 a1).bind fun t446 => (if t445 = t446 then ((key_At.f k l0 a1 a2).bind fun t447 => ((mutoscoperef5_At.f k l0 a1 a2).bind fun t448 => (some (t447 == t448)))) else (some false)))) else (some false)))
theorem mutoscopelaw5_same.mono : ∀ a0 a1 a2 k, LeO (mutoscopelaw5_same.f k a0 a1 a2) (mutoscopelaw5_same.f (k + 1) a0 a1 a2) := by
 intro a0 a1 a2 k
 unfold mutoscopelaw5_same.f
 repeat' first
   | (with_reducible exact key_At.mono _ _ _ _)
   | (with_reducible exact key_Find.mono _ _ _)
   | (with_reducible exact key_Right.mono _ _)
   | (with_reducible exact mutoscoperef5_At.mono _ _ _ _)
   | (with_reducible exact mutoscoperef5_Find.mono _ _ _)
   | (with_reducible exact mutoscoperef5_Right.mono _ _)
   | (with_reducible exact LeO.refl _)
   | (with_reducible exact LeO.none _)
   | (with_reducible refine LeO.ite ?_ ?_)
   | (with_reducible refine LeO.bind ?_ (fun _ => ?_))
   | exact key_At.mono _ _ _ _
   | exact key_Find.mono _ _ _
   | exact key_Right.mono _ _
   | exact mutoscoperef5_At.mono _ _ _ _
   | exact mutoscoperef5_Find.mono _ _ _
   | exact mutoscoperef5_Right.mono _ _
   | exact LeO.none _
   | refine LeO.ite ?_ ?_
   | refine LeO.bind ?_ (fun _ => ?_)
set_option maxHeartbeats 8000000 in
set_option maxRecDepth 100000 in
theorem mutoscopelaw5_same.calls (k : Nat) (A0 : Option Addr) (c0 : Nat) (l0 : List (S34)) (a1 : Int) (a2 : Int) (r : Bool) (w : World) (hr0 : Kd.C k34 w A0 l0.length l0) (hc0 : l0.length ≤ c0) (h : mutoscopelaw5_same.f k l0 a1 a2 = some r) :
  Calls Try.prog 26 #[.slice A0 l0.length c0, .int .i64 a1, .int .i64 a2] w fun e w' => e = .returned (.bool r) ∧ Below w.heap.size w w' := by
 have HR0 := Aside0.mk hr0
 have HC0 := Aside0.mk hc0
 clear hr0 hc0
 have HB := Aside0.mk (Below.refl w.heap.size w)
 have H : ((key_Right.f k l0).bind fun t443 => ((mutoscoperef5_Right.f k l0).bind fun t444 => (if (t443 == t444) = true then ((key_Find.f k l0 a1).bind fun t445 => ((mutoscoperef5_Find.f k l0 a1).bind fun t446 => (if t445 = t446 then ((key_At.f k l0 a1 a2).bind fun t447 => ((mutoscoperef5_At.f k l0 a1 a2).bind fun t448 => (some (t447 == t448)))) else (some false)))) else (some false)))) = some r := h
 clear h
 replace H := Option.bind_eq_some_iff.mp H
 obtain ⟨t443, A40, H⟩ := H
 replace H : ((mutoscoperef5_Right.f k l0).bind fun t444 => (if (t443 == t444) = true then ((key_Find.f k l0 a1).bind fun t445 => ((mutoscoperef5_Find.f k l0 a1).bind fun t446 => (if t445 = t446 then ((key_At.f k l0 a1 a2).bind fun t447 => ((mutoscoperef5_At.f k l0 a1 a2).bind fun t448 => (some (t447 == t448)))) else (some false)))) else (some false))) = some r := H
 have A4 := Aside0.mk A40
 clear A40
 replace H := Option.bind_eq_some_iff.mp H
 obtain ⟨t444, A50, H⟩ := H
 replace H : (if (t443 == t444) = true then ((key_Find.f k l0 a1).bind fun t445 => ((mutoscoperef5_Find.f k l0 a1).bind fun t446 => (if t445 = t446 then ((key_At.f k l0 a1 a2).bind fun t447 => ((mutoscoperef5_At.f k l0 a1 a2).bind fun t448 => (some (t447 == t448)))) else (some false)))) else (some false)) = some r := H
 have A5 := Aside0.mk A50
 clear A50
 by_cases c6 : (t443 == t444) = true
 ·rw [if_pos c6] at H
  have c6b0 : (t443 == t444) = true := c6
  (try (have c6b1 : decide (t443 = t444) = true := by simpa using c6))
  (try (have c6b2 : (t443 == t444) = true := by simpa using c6))
  clear c6
  replace H := Option.bind_eq_some_iff.mp H
  obtain ⟨t445, A70, H⟩ := H
  replace H : ((mutoscoperef5_Find.f k l0 a1).bind fun t446 => (if t445 = t446 then ((key_At.f k l0 a1 a2).bind fun t447 => ((mutoscoperef5_At.f k l0 a1 a2).bind fun t448 => (some (t447 == t448)))) else (some false))) = some r := H
  have A7 := Aside0.mk A70
  clear A70
  replace H := Option.bind_eq_some_iff.mp H
  obtain ⟨t446, A80, H⟩ := H
  replace H : (if t445 = t446 then ((key_At.f k l0 a1 a2).bind fun t447 => ((mutoscoperef5_At.f k l0 a1 a2).bind fun t448 => (some (t447 == t448)))) else (some false)) = some r := H
  have A8 := Aside0.mk A80
  clear A80
  by_cases c9 : t445 = t446
  ·rw [if_pos c9] at H
   have c9b0 : (t445 == t446) = true := beq_iff_eq.mpr c9
   have c9b1 : (t445 != t446) = false := bne_eq_false_iff_eq.mpr c9
   clear c9
   replace H := Option.bind_eq_some_iff.mp H
   obtain ⟨t447, A100, H⟩ := H
   replace H : ((mutoscoperef5_At.f k l0 a1 a2).bind fun t448 => (some (t447 == t448))) = some r := H
   have A10 := Aside0.mk A100
   clear A100
   replace H := Option.bind_eq_some_iff.mp H
   obtain ⟨t448, A110, H⟩ := H
   replace H : (some (t447 == t448)) = some r := H
   have A11 := Aside0.mk A110
   clear A110
   obtain rfl := Option.some.inj H
   go_enter Try.func26, Try.ntmps26
   go_wp2_with (first | ((with_reducible refine gate_callee (f := 22) rfl ?_); refine goesL_ (some 8) rfl rfl Try.func22 (by kernel_rfl) rfl #[.slice A0 l0.length c0] rfl (by (try simp only [List.map_toArray, List.map_cons, List.map_nil]); first | done | rfl | (simp only [List.length_drop, List.length_take]; rfl)) ?_; (with_reducible refine (key_Right.calls k _ _ l0 t443 _ ?side1 ?side2 A4.out).mono ?_); (case side1 => repeat (first | exact HR0.out | (with_reducible refine Kd.C_alloc ?_ _) | (with_reducible refine Kd.C_drewN ?_ _) | (with_reducible refine Kd.C_drew ?_))); (case side2 => exact HC0.out); rintro e w12 ⟨rfl, hb⟩; refine ⟨_, rfl, ?_⟩; have n0_ := Aside0.mk (below_step (by repeat (first | (with_reducible first | exact HB.out | apply below_alloc | apply pw_below_drewN | apply below_drew1) | exact HB.out)) hb); clear HB; have HB := n0_; clear n0_; (try clear hb); (try clear hb2); (try clear hk); (try clear hi)) | ((with_reducible refine gate_callee (f := 41) rfl ?_); refine goesL_ (some 10) rfl rfl Try.func41 (by kernel_rfl) rfl #[.slice A0 l0.length c0] rfl (by (try simp only [List.map_toArray, List.map_cons, List.map_nil]); first | done | rfl | (simp only [List.length_drop, List.length_take]; rfl)) ?_; (with_reducible refine (mutoscoperef5_Right.calls k _ _ l0 t444 _ ?side1 ?side2 A5.out).mono ?_); (case side1 => repeat (first | exact (Kd.C_below HR0.out HB.out) | (with_reducible refine Kd.C_alloc ?_ _) | (with_reducible refine Kd.C_drewN ?_ _) | (with_reducible refine Kd.C_drew ?_))); (case side2 => exact HC0.out); rintro e w13 ⟨rfl, hb⟩; refine ⟨_, rfl, ?_⟩; have n0_ := Aside0.mk (below_step (by repeat (first | (with_reducible first | exact HB.out | apply below_alloc | apply pw_below_drewN | apply below_drew1) | exact HB.out)) hb); clear HB; have HB := n0_; clear n0_; (try clear hb); (try clear hb2); (try clear hk); (try clear hi)) | (go_at_call 19; (with_reducible refine (key_Find.calls k _ _ l0 a1 t445 _ ?side1 ?side2 A7.out).mono ?_); (case side1 => repeat (first | exact (Kd.C_below HR0.out HB.out) | (with_reducible refine Kd.C_alloc ?_ _) | (with_reducible refine Kd.C_drewN ?_ _) | (with_reducible refine Kd.C_drew ?_))); (case side2 => exact HC0.out); rintro e w' ⟨rfl, ⟨nd, rfl⟩⟩) | (go_at_call 42; (with_reducible refine (mutoscoperef5_Find.calls k _ _ l0 a1 t446 _ ?side1 ?side2 A8.out).mono ?_); (case side1 => repeat (first | exact (Kd.C_below HR0.out (by repeat (first | (with_reducible first | exact HB.out | apply below_alloc | apply pw_below_drewN | apply below_drew1) | exact HB.out))) | (with_reducible refine Kd.C_alloc ?_ _) | (with_reducible refine Kd.C_drewN ?_ _) | (with_reducible refine Kd.C_drew ?_))); (case side2 => exact HC0.out); rintro e w' ⟨rfl, ⟨nd, rfl⟩⟩) | (go_at_call 18; (with_reducible refine (key_At.calls k _ _ l0 a1 a2 t447 _ ?side1 ?side2 A10.out).mono ?_); (case side1 => repeat (first | exact (Kd.C_below HR0.out (by repeat (first | (with_reducible first | exact HB.out | apply below_alloc | apply pw_below_drewN | apply below_drew1) | exact HB.out))) | (with_reducible refine Kd.C_alloc ?_ _) | (with_reducible refine Kd.C_drewN ?_ _) | (with_reducible refine Kd.C_drew ?_))); (case side2 => exact HC0.out); rintro e w14 ⟨rfl, hb⟩; have n0_ := Aside0.mk (below_step (by repeat (first | (with_reducible first | exact HB.out | apply below_alloc | apply pw_below_drewN | apply below_drew1) | exact HB.out)) hb); clear HB; have HB := n0_; clear n0_; (try clear hb); (try clear hb2); (try clear hk); (try clear hi)) | (go_at_call 43; (with_reducible refine (mutoscoperef5_At.calls k _ _ l0 a1 a2 t448 _ ?side1 ?side2 A11.out).mono ?_); (case side1 => repeat (first | exact (Kd.C_below HR0.out HB.out) | (with_reducible refine Kd.C_alloc ?_ _) | (with_reducible refine Kd.C_drewN ?_ _) | (with_reducible refine Kd.C_drew ?_))); (case side2 => exact HC0.out); rintro e w15 ⟨rfl, hb⟩; have n0_ := Aside0.mk (below_step (by repeat (first | (with_reducible first | exact HB.out | apply below_alloc | apply pw_below_drewN | apply below_drew1) | exact HB.out)) hb); clear HB; have HB := n0_; clear n0_; (try clear hb); (try clear hb2); (try clear hk); (try clear hi)))
   go_ret
   exact ⟨by first | rfl | (simp [errW_none, errW_some] <;> rfl) | (simp [*, errW_none, errW_some] <;> rfl), by repeat (first | (with_reducible first | exact HB.out | apply below_alloc | apply pw_below_drewN | apply below_drew1) | exact HB.out)⟩
  ·rw [if_neg c9] at H
   have c9b0 : (t445 == t446) = false := beq_eq_false_iff_ne.mpr c9
   have c9b1 : (t445 != t446) = true := bne_iff_ne.mpr c9
   obtain rfl := Option.some.inj H
   go_enter Try.func26, Try.ntmps26
   go_wp2_with (first | ((with_reducible refine gate_callee (f := 22) rfl ?_); refine goesL_ (some 8) rfl rfl Try.func22 (by kernel_rfl) rfl #[.slice A0 l0.length c0] rfl (by (try simp only [List.map_toArray, List.map_cons, List.map_nil]); first | done | rfl | (simp only [List.length_drop, List.length_take]; rfl)) ?_; (with_reducible refine (key_Right.calls k _ _ l0 t443 _ ?side1 ?side2 A4.out).mono ?_); (case side1 => repeat (first | exact HR0.out | (with_reducible refine Kd.C_alloc ?_ _) | (with_reducible refine Kd.C_drewN ?_ _) | (with_reducible refine Kd.C_drew ?_))); (case side2 => exact HC0.out); rintro e w16 ⟨rfl, hb⟩; refine ⟨_, rfl, ?_⟩; have n0_ := Aside0.mk (below_step (by repeat (first | (with_reducible first | exact HB.out | apply below_alloc | apply pw_below_drewN | apply below_drew1) | exact HB.out)) hb); clear HB; have HB := n0_; clear n0_; (try clear hb); (try clear hb2); (try clear hk); (try clear hi)) | ((with_reducible refine gate_callee (f := 41) rfl ?_); refine goesL_ (some 10) rfl rfl Try.func41 (by kernel_rfl) rfl #[.slice A0 l0.length c0] rfl (by (try simp only [List.map_toArray, List.map_cons, List.map_nil]); first | done | rfl | (simp only [List.length_drop, List.length_take]; rfl)) ?_; (with_reducible refine (mutoscoperef5_Right.calls k _ _ l0 t444 _ ?side1 ?side2 A5.out).mono ?_); (case side1 => repeat (first | exact (Kd.C_below HR0.out HB.out) | (with_reducible refine Kd.C_alloc ?_ _) | (with_reducible refine Kd.C_drewN ?_ _) | (with_reducible refine Kd.C_drew ?_))); (case side2 => exact HC0.out); rintro e w17 ⟨rfl, hb⟩; refine ⟨_, rfl, ?_⟩; have n0_ := Aside0.mk (below_step (by repeat (first | (with_reducible first | exact HB.out | apply below_alloc | apply pw_below_drewN | apply below_drew1) | exact HB.out)) hb); clear HB; have HB := n0_; clear n0_; (try clear hb); (try clear hb2); (try clear hk); (try clear hi)) | (go_at_call 19; (with_reducible refine (key_Find.calls k _ _ l0 a1 t445 _ ?side1 ?side2 A7.out).mono ?_); (case side1 => repeat (first | exact (Kd.C_below HR0.out HB.out) | (with_reducible refine Kd.C_alloc ?_ _) | (with_reducible refine Kd.C_drewN ?_ _) | (with_reducible refine Kd.C_drew ?_))); (case side2 => exact HC0.out); rintro e w' ⟨rfl, ⟨nd, rfl⟩⟩) | (go_at_call 42; (with_reducible refine (mutoscoperef5_Find.calls k _ _ l0 a1 t446 _ ?side1 ?side2 A8.out).mono ?_); (case side1 => repeat (first | exact (Kd.C_below HR0.out (by repeat (first | (with_reducible first | exact HB.out | apply below_alloc | apply pw_below_drewN | apply below_drew1) | exact HB.out))) | (with_reducible refine Kd.C_alloc ?_ _) | (with_reducible refine Kd.C_drewN ?_ _) | (with_reducible refine Kd.C_drew ?_))); (case side2 => exact HC0.out); rintro e w' ⟨rfl, ⟨nd, rfl⟩⟩))
   go_ret
   exact ⟨by first | rfl | (simp [errW_none, errW_some] <;> rfl) | (simp [*, errW_none, errW_some] <;> rfl), by repeat (first | (with_reducible first | exact HB.out | apply below_alloc | apply pw_below_drewN | apply below_drew1) | exact HB.out)⟩
 ·rw [if_neg c6] at H
  have c6b0 : (t443 == t444) = false := by simpa using c6
  (try (have c6b1 : decide (t443 = t444) = false := by simpa using c6))
  (try (have c6b2 : (t443 == t444) = false := by simpa using c6))
  (try (have c6b3 : ¬ (t443 = t444) := by simpa using c6))
  clear c6
  obtain rfl := Option.some.inj H
  go_enter Try.func26, Try.ntmps26
  go_wp2_with (first | ((with_reducible refine gate_callee (f := 22) rfl ?_); refine goesL_ (some 8) rfl rfl Try.func22 (by kernel_rfl) rfl #[.slice A0 l0.length c0] rfl (by (try simp only [List.map_toArray, List.map_cons, List.map_nil]); first | done | rfl | (simp only [List.length_drop, List.length_take]; rfl)) ?_; (with_reducible refine (key_Right.calls k _ _ l0 t443 _ ?side1 ?side2 A4.out).mono ?_); (case side1 => repeat (first | exact HR0.out | (with_reducible refine Kd.C_alloc ?_ _) | (with_reducible refine Kd.C_drewN ?_ _) | (with_reducible refine Kd.C_drew ?_))); (case side2 => exact HC0.out); rintro e w18 ⟨rfl, hb⟩; refine ⟨_, rfl, ?_⟩; have n0_ := Aside0.mk (below_step (by repeat (first | (with_reducible first | exact HB.out | apply below_alloc | apply pw_below_drewN | apply below_drew1) | exact HB.out)) hb); clear HB; have HB := n0_; clear n0_; (try clear hb); (try clear hb2); (try clear hk); (try clear hi)) | ((with_reducible refine gate_callee (f := 41) rfl ?_); refine goesL_ (some 10) rfl rfl Try.func41 (by kernel_rfl) rfl #[.slice A0 l0.length c0] rfl (by (try simp only [List.map_toArray, List.map_cons, List.map_nil]); first | done | rfl | (simp only [List.length_drop, List.length_take]; rfl)) ?_; (with_reducible refine (mutoscoperef5_Right.calls k _ _ l0 t444 _ ?side1 ?side2 A5.out).mono ?_); (case side1 => repeat (first | exact (Kd.C_below HR0.out HB.out) | (with_reducible refine Kd.C_alloc ?_ _) | (with_reducible refine Kd.C_drewN ?_ _) | (with_reducible refine Kd.C_drew ?_))); (case side2 => exact HC0.out); rintro e w19 ⟨rfl, hb⟩; refine ⟨_, rfl, ?_⟩; have n0_ := Aside0.mk (below_step (by repeat (first | (with_reducible first | exact HB.out | apply below_alloc | apply pw_below_drewN | apply below_drew1) | exact HB.out)) hb); clear HB; have HB := n0_; clear n0_; (try clear hb); (try clear hb2); (try clear hk); (try clear hi)))
  go_ret
  exact ⟨by first | rfl | (simp [errW_none, errW_some] <;> rfl) | (simp [*, errW_none, errW_some] <;> rfl), by repeat (first | (with_reducible first | exact HB.out | apply below_alloc | apply pw_below_drewN | apply below_drew1) | exact HB.out)⟩
end Go.Proofs.Ytejnbjclcdmopaa.PA
end

section
namespace Go.Proofs.Ytejnbjclcdmopaa.PA
open Go.RowKit Go.Proofs.YtejnbjclcdmopaaW.PrintWords Go.Proofs.YtejnbjclcdmopaaW.PrintLast Go.Proofs.YtejnbjclcdmopaaW.PrintMore
attribute [local go_sem] max2_int min2_int max_two min_two max_three min_three max_four min_four
attribute [local go_sem] Go.Proofs.Ytejnbjclcdmopaa.MS.isSome_setCell
set_option linter.unusedVariables false
set_option linter.unusedSimpArgs false
def mutoscopelaw5_KeyTells.f (k : Nat) (l0 : List (S34)) (a1 : Int) (a2 : Int) (a3 : Int) (a4_0 : Int) (a4_1 : Int) (a4_2 : Int) (a4_3 : Int) (a5 : Int) : Option (Bool) := if (l0.length : Int) > 40 then (if 40 ≤ (l0.length : Int) then ((some (l0.take 40 : List (S34))).bind fun y478 => ((mutoscopelaw5_rising.f k y478).bind fun t482 => ((mutoscopelaw5_same.f k t482 (wrap64 ((Go.bits .and .i64 a1 255) - 9)) a2).bind fun t485 => (if t485 = true then ((mutoscopelaw5_same.f k t482 a1 a2).bind fun t486 => (if t486 = true then ((mutoscopelaw5_same.f k y478 (Go.bits .and .i64 a1 7) a2).bind fun t487 => (if t487 = true then ((key_Goes.f k a3 a4_0 a4_1 a4_2 a4_3 a5).bind fun t488 => ((mutoscoperef5_Goes.f k a3 a4_0 a4_1 a4_2 a4_3 a5).bind fun t489 => (if t488 = t489 then ((key_Goes.f k (Go.bits .and .i64 a3 3) a4_0 a4_1 a4_2 a4_3 (Go.bits .and .i64 a5 65535)).bind fun t490 => ((mutoscoperef5_Goes.f k (Go.bits .and .i64 a3 3) a4_0 a4_1 a4_2 a4_3 (Go.bits .and .i64 a5 65535)).bind fun t491 => (if t490 = t491 then ((mutoscopelaw5_known.f k).bind fun t492 => (some t492)) else (none)))) else (none)))) else (none))) else (none))) else (none))))) else (none)) else ((mutoscopelaw5_rising.f k l0).bind fun t493 => ((mutoscopelaw5_same.f k t493 (wrap64 ((Go.bits .and .i64 a1 255) - 9)) a2).bind fun t496 => (if t496 = true then ((mutoscopelaw5_same.f k t493 a1 a2).bind fun t497 => (if t497 = true then ((mutoscopelaw5_same.f k l0 (Go.bits .and .i64 a1 7) a2).bind fun t498 => (if t498 = true then ((key_Goes.f k a3 a4_0 a4_1 a4_2 a4_3 a5).bind fun t499 => ((mutoscoperef5_Goes.f k a3 a4_0 a4_1 a4_2 a4_3 a5).bind fun t500 => (if t499 = t500 then ((key_Goes.f k (Go.bits .and .i64 a3 3) a4_0 a4_1 a4_2 a4_3 (Go.bits .and .i64 a5 65535)).bind fun t501 => ((mutoscoperef5_Goes.f k (Go.bits .and .i64 a3 3) a4_0 a4_1 a4_2 a4_3 (Go.bits .and .i64 a5 65535)).bind fun t502 => (if t501 = t502 then ((mutoscopelaw5_known.f k).bind fun t503 => (some t503)) else (none)))) else (none)))) else (none))) else (none))) else (none))))
theorem mutoscopelaw5_KeyTells.mono : ∀ a0 a1 a2 a3 a4 a5 a6 a7 a8 k, LeO (mutoscopelaw5_KeyTells.f k a0 a1 a2 a3 a4 a5 a6 a7 a8) (mutoscopelaw5_KeyTells.f (k + 1) a0 a1 a2 a3 a4 a5 a6 a7 a8) := by
 intro a0 a1 a2 a3 a4 a5 a6 a7 a8 k
 unfold mutoscopelaw5_KeyTells.f
 repeat' first
   | (with_reducible exact key_Goes.mono _ _ _ _ _ _ _)
   | (with_reducible exact mutoscopelaw5_known.mono _)
   | (with_reducible exact mutoscopelaw5_rising.mono _ _)
   | (with_reducible exact mutoscopelaw5_same.mono _ _ _ _)
   | (with_reducible exact mutoscoperef5_Goes.mono _ _ _ _ _ _ _)
   | (with_reducible exact LeO.refl _)
   | (with_reducible exact LeO.none _)
   | (with_reducible refine LeO.ite ?_ ?_)
   | (with_reducible refine LeO.bind ?_ (fun _ => ?_))
   | exact key_Goes.mono _ _ _ _ _ _ _
   | exact mutoscopelaw5_known.mono _
   | exact mutoscopelaw5_rising.mono _ _
   | exact mutoscopelaw5_same.mono _ _ _ _
   | exact mutoscoperef5_Goes.mono _ _ _ _ _ _ _
   | exact LeO.none _
   | refine LeO.ite ?_ ?_
   | refine LeO.bind ?_ (fun _ => ?_)
def mutoscopelaw5_KeyTells.T4 : Bool × List (List Nat × List Nat) := (true, [([], []), ([], []), ([1], [1]), ([2], [2]), ([], []), ([0, 3, 4], [0, 3, 4]), ([5, 5], [5]), ([6], [6]), ([6], [6]), ([6], [6]), ([7, 8, 9, 6, 6], [6, 7, 8, 9]), ([6, 10], [6, 10]), ([11, 10], [11]), ([12], [12]), ([12], [12]), ([14, 12], [12, 14]), ([12], [12]), ([13, 15, 16, 12, 12], [12, 13, 15, 16]), ([12, 17], [12, 17]), ([18, 17], [18]), ([19], [19]), ([19], [19]), ([19], [19]), ([20, 21, 22, 19, 19], [19, 20, 21, 22]), ([19], [19]), ([19], [19]), ([19], [19]), ([24, 25, 26, 23, 19], [19, 24, 25, 26]), ([23, 27, 19], [19, 23, 27]), ([19, 28], [19, 28]), ([29, 27], [29]), ([30], [30]), ([31, 30], [30, 31]), ([30], [30]), ([30], [30]), ([34, 30], [30, 34]), ([32, 33, 35, 30, 30], [30, 32, 33, 35]), ([30], [30]), ([37, 30], [30, 37]), ([30], [30]), ([30], [30]), ([40, 30], [30, 40]), ([38, 39, 41, 36, 30], [30, 38, 39, 41]), ([36, 42, 30], [30, 36, 42]), ([30, 43], [30, 43]), ([44, 42], [44]), ([45, 45], [45]), ([45, 46], [45, 46]), ([47, 46, 0, 1, 2, 3, 4, 5, 6, 7, 8, 9, 10, 11, 12, 13, 14, 15, 16, 17, 18, 19, 20, 21, 22, 23, 24, 25, 26, 27, 28, 29, 30, 31, 32, 33, 34, 35, 36, 37, 38, 39, 40, 41, 42, 43, 44, 45, 46, 47], [47])])
def mutoscopelaw5_KeyTells.B4 : List Nat := [0, 0, 2, 6, 0, 31, 63, 127, 127, 127, 1023, 2047, 4095, 8191, 8191, 24575, 8191, 131071, 262143, 524287, 1048575, 1048575, 1048575, 8388607, 1048575, 1048575, 1048575, 134217727, 268435455, 536870911, 1073741823, 2147483647, 4294967295, 2147483647, 2147483647, 19327352831, 68719476735, 2147483647, 139586437119, 2147483647, 2147483647, 1101659111423, 4398046511103, 8796093022207, 17592186044415, 35184372088831, 70368744177663, 140737488355327, 281474976710655]
theorem mutoscopelaw5_KeyTells.tab4 : rtab .any (opsOf Try.f12 4) = mutoscopelaw5_KeyTells.T4 := by kernel_rfl
theorem mutoscopelaw5_KeyTells.bits4 : waitsOk mutoscopelaw5_KeyTells.T4.2 mutoscopelaw5_KeyTells.B4 = true := by kernel_rfl
set_option maxHeartbeats 8000000 in
set_option maxRecDepth 100000 in
theorem mutoscopelaw5_KeyTells.calls (k : Nat) (A0 : Option Addr) (c0 : Nat) (l0 : List (S34)) (a1 : Int) (a2 : Int) (a3 : Int) (a4_0 : Int) (a4_1 : Int) (a4_2 : Int) (a4_3 : Int) (a5 : Int) (r : Bool) (w : World) (hr0 : Kd.C k34 w A0 l0.length l0) (hc0 : l0.length ≤ c0) (h : mutoscopelaw5_KeyTells.f k l0 a1 a2 a3 a4_0 a4_1 a4_2 a4_3 a5 = some r) :
  Calls Try.prog 12 #[.slice A0 l0.length c0, .int .i64 a1, .int .i64 a2, .int .i64 a3, .agg #[.int .i64 a4_0, .int .i64 a4_1, .int .i64 a4_2, .int .i64 a4_3], .int .i64 a5] w fun e w' => e = .returned (.bool r) ∧ Below w.heap.size w w' := by
 have hu23 := Try.underlying23
 have HR0 := Aside0.mk hr0
 have HC0 := Aside0.mk hc0
 clear hr0 hc0
 have HB := Aside0.mk (Below.refl w.heap.size w)
 have H : (if (l0.length : Int) > 40 then (if 40 ≤ (l0.length : Int) then ((some (l0.take 40 : List (S34))).bind fun y478 => ((mutoscopelaw5_rising.f k y478).bind fun t482 => ((mutoscopelaw5_same.f k t482 (wrap64 ((Go.bits .and .i64 a1 255) - 9)) a2).bind fun t485 => (if t485 = true then ((mutoscopelaw5_same.f k t482 a1 a2).bind fun t486 => (if t486 = true then ((mutoscopelaw5_same.f k y478 (Go.bits .and .i64 a1 7) a2).bind fun t487 => (if t487 = true then ((key_Goes.f k a3 a4_0 a4_1 a4_2 a4_3 a5).bind fun t488 => ((mutoscoperef5_Goes.f k a3 a4_0 a4_1 a4_2 a4_3 a5).bind fun t489 => (if t488 = t489 then ((key_Goes.f k (Go.bits .and .i64 a3 3) a4_0 a4_1 a4_2 a4_3 (Go.bits .and .i64 a5 65535)).bind fun t490 => ((mutoscoperef5_Goes.f k (Go.bits .and .i64 a3 3) a4_0 a4_1 a4_2 a4_3 (Go.bits .and .i64 a5 65535)).bind fun t491 => (if t490 = t491 then ((mutoscopelaw5_known.f k).bind fun t492 => (some t492)) else (none)))) else (none)))) else (none))) else (none))) else (none))))) else (none)) else ((mutoscopelaw5_rising.f k l0).bind fun t493 => ((mutoscopelaw5_same.f k t493 (wrap64 ((Go.bits .and .i64 a1 255) - 9)) a2).bind fun t496 => (if t496 = true then ((mutoscopelaw5_same.f k t493 a1 a2).bind fun t497 => (if t497 = true then ((mutoscopelaw5_same.f k l0 (Go.bits .and .i64 a1 7) a2).bind fun t498 => (if t498 = true then ((key_Goes.f k a3 a4_0 a4_1 a4_2 a4_3 a5).bind fun t499 => ((mutoscoperef5_Goes.f k a3 a4_0 a4_1 a4_2 a4_3 a5).bind fun t500 => (if t499 = t500 then ((key_Goes.f k (Go.bits .and .i64 a3 3) a4_0 a4_1 a4_2 a4_3 (Go.bits .and .i64 a5 65535)).bind fun t501 => ((mutoscoperef5_Goes.f k (Go.bits .and .i64 a3 3) a4_0 a4_1 a4_2 a4_3 (Go.bits .and .i64 a5 65535)).bind fun t502 => (if t501 = t502 then ((mutoscopelaw5_known.f k).bind fun t503 => (some t503)) else (none)))) else (none)))) else (none))) else (none))) else (none))))) = some r := h
 clear h
 by_cases c7 : (l0.length : Int) > 40
 ·rw [if_pos c7] at H
  have c7b0 : decide (40 < (l0.length : Int)) = true := decide_eq_true c7
  have c7b1 : decide (40 < l0.length) = true := decide_eq_true (by omega)
  clear c7
  by_cases c8 : 40 ≤ (l0.length : Int)
  ·rw [if_pos c8] at H
   have c8b0 := eq_true c8
   have c8b1 : decide (40 ≤ (l0.length : Int)) = true := decide_eq_true c8
   clear c8
   obtain ⟨y478, hy478⟩ : ∃ y_ : List (S34), y_ = (l0.take 40) := ⟨_, rfl⟩
   replace H : ((mutoscopelaw5_rising.f k y478).bind fun t482 => ((mutoscopelaw5_same.f k t482 (wrap64 ((Go.bits .and .i64 a1 255) - 9)) a2).bind fun t485 => (if t485 = true then ((mutoscopelaw5_same.f k t482 a1 a2).bind fun t486 => (if t486 = true then ((mutoscopelaw5_same.f k y478 (Go.bits .and .i64 a1 7) a2).bind fun t487 => (if t487 = true then ((key_Goes.f k a3 a4_0 a4_1 a4_2 a4_3 a5).bind fun t488 => ((mutoscoperef5_Goes.f k a3 a4_0 a4_1 a4_2 a4_3 a5).bind fun t489 => (if t488 = t489 then ((key_Goes.f k (Go.bits .and .i64 a3 3) a4_0 a4_1 a4_2 a4_3 (Go.bits .and .i64 a5 65535)).bind fun t490 => ((mutoscoperef5_Goes.f k (Go.bits .and .i64 a3 3) a4_0 a4_1 a4_2 a4_3 (Go.bits .and .i64 a5 65535)).bind fun t491 => (if t490 = t491 then ((mutoscopelaw5_known.f k).bind fun t492 => (some t492)) else (none)))) else (none)))) else (none))) else (none))) else (none)))) = some r := by first | (rw [hy478]; with_reducible exact H) | (have H2_ := (Option.bind_some _ _).symm.trans H; rw [hy478]; with_reducible exact H2_) | (have H2_ := (Option.bind_some _ _).symm.trans H; with_reducible exact H2_) | with_reducible exact H | (rw [hy478]; exact H) | exact H
   have Ny478 := Aside0.mk hy478
   clear hy478
   replace H := Option.bind_eq_some_iff.mp H
   obtain ⟨t482, A90, H⟩ := H
   replace H : ((mutoscopelaw5_same.f k t482 (wrap64 ((Go.bits .and .i64 a1 255) - 9)) a2).bind fun t485 => (if t485 = true then ((mutoscopelaw5_same.f k t482 a1 a2).bind fun t486 => (if t486 = true then ((mutoscopelaw5_same.f k y478 (Go.bits .and .i64 a1 7) a2).bind fun t487 => (if t487 = true then ((key_Goes.f k a3 a4_0 a4_1 a4_2 a4_3 a5).bind fun t488 => ((mutoscoperef5_Goes.f k a3 a4_0 a4_1 a4_2 a4_3 a5).bind fun t489 => (if t488 = t489 then ((key_Goes.f k (Go.bits .and .i64 a3 3) a4_0 a4_1 a4_2 a4_3 (Go.bits .and .i64 a5 65535)).bind fun t490 => ((mutoscoperef5_Goes.f k (Go.bits .and .i64 a3 3) a4_0 a4_1 a4_2 a4_3 (Go.bits .and .i64 a5 65535)).bind fun t491 => (if t490 = t491 then ((mutoscopelaw5_known.f k).bind fun t492 => (some t492)) else (none)))) else (none)))) else (none))) else (none))) else (none))) = some r := H
   have A9 := Aside0.mk A90
   clear A90
   replace H := Option.bind_eq_some_iff.mp H
   obtain ⟨t485, A100, H⟩ := H
   replace H : (if t485 = true then ((mutoscopelaw5_same.f k t482 a1 a2).bind fun t486 => (if t486 = true then ((mutoscopelaw5_same.f k y478 (Go.bits .and .i64 a1 7) a2).bind fun t487 => (if t487 = true then ((key_Goes.f k a3 a4_0 a4_1 a4_2 a4_3 a5).bind fun t488 => ((mutoscoperef5_Goes.f k a3 a4_0 a4_1 a4_2 a4_3 a5).bind fun t489 => (if t488 = t489 then ((key_Goes.f k (Go.bits .and .i64 a3 3) a4_0 a4_1 a4_2 a4_3 (Go.bits .and .i64 a5 65535)).bind fun t490 => ((mutoscoperef5_Goes.f k (Go.bits .and .i64 a3 3) a4_0 a4_1 a4_2 a4_3 (Go.bits .and .i64 a5 65535)).bind fun t491 => (if t490 = t491 then ((mutoscopelaw5_known.f k).bind fun t492 => (some t492)) else (none)))) else (none)))) else (none))) else (none))) else (none)) = some r := H
   have A10 := Aside0.mk A100
   clear A100
   by_cases c11 : t485 = true
   ·subst c11
    have H1 : ((mutoscopelaw5_same.f k t482 a1 a2).bind fun t486 => (if t486 = true then ((mutoscopelaw5_same.f k y478 (Go.bits .and .i64 a1 7) a2).bind fun t487 => (if t487 = true then ((key_Goes.f k a3 a4_0 a4_1 a4_2 a4_3 a5).bind fun t488 => ((mutoscoperef5_Goes.f k a3 a4_0 a4_1 a4_2 a4_3 a5).bind fun t489 => (if t488 = t489 then ((key_Goes.f k (Go.bits .and .i64 a3 3) a4_0 a4_1 a4_2 a4_3 (Go.bits .and .i64 a5 65535)).bind fun t490 => ((mutoscoperef5_Goes.f k (Go.bits .and .i64 a3 3) a4_0 a4_1 a4_2 a4_3 (Go.bits .and .i64 a5 65535)).bind fun t491 => (if t490 = t491 then ((mutoscopelaw5_known.f k).bind fun t492 => (some t492)) else (none)))) else (none)))) else (none))) else (none))) = some r := by rw [if_pos rfl] at H; exact H
    clear H
    have H := H1
    clear H1
    replace H := Option.bind_eq_some_iff.mp H
    obtain ⟨t486, A120, H⟩ := H
    replace H : (if t486 = true then ((mutoscopelaw5_same.f k y478 (Go.bits .and .i64 a1 7) a2).bind fun t487 => (if t487 = true then ((key_Goes.f k a3 a4_0 a4_1 a4_2 a4_3 a5).bind fun t488 => ((mutoscoperef5_Goes.f k a3 a4_0 a4_1 a4_2 a4_3 a5).bind fun t489 => (if t488 = t489 then ((key_Goes.f k (Go.bits .and .i64 a3 3) a4_0 a4_1 a4_2 a4_3 (Go.bits .and .i64 a5 65535)).bind fun t490 => ((mutoscoperef5_Goes.f k (Go.bits .and .i64 a3 3) a4_0 a4_1 a4_2 a4_3 (Go.bits .and .i64 a5 65535)).bind fun t491 => (if t490 = t491 then ((mutoscopelaw5_known.f k).bind fun t492 => (some t492)) else (none)))) else (none)))) else (none))) else (none)) = some r := H
    have A12 := Aside0.mk A120
    clear A120
    by_cases c13 : t486 = true
    ·subst c13
     have H1 : ((mutoscopelaw5_same.f k y478 (Go.bits .and .i64 a1 7) a2).bind fun t487 => (if t487 = true then ((key_Goes.f k a3 a4_0 a4_1 a4_2 a4_3 a5).bind fun t488 => ((mutoscoperef5_Goes.f k a3 a4_0 a4_1 a4_2 a4_3 a5).bind fun t489 => (if t488 = t489 then ((key_Goes.f k (Go.bits .and .i64 a3 3) a4_0 a4_1 a4_2 a4_3 (Go.bits .and .i64 a5 65535)).bind fun t490 => ((mutoscoperef5_Goes.f k (Go.bits .and .i64 a3 3) a4_0 a4_1 a4_2 a4_3 (Go.bits .and .i64 a5 65535)).bind fun t491 => (if t490 = t491 then ((mutoscopelaw5_known.f k).bind fun t492 => (some t492)) else (none)))) else (none)))) else (none))) = some r := by rw [if_pos rfl] at H; exact H
     clear H
     have H := H1
     clear H1
     replace H := Option.bind_eq_some_iff.mp H
     obtain ⟨t487, A140, H⟩ := H
     replace H : (if t487 = true then ((key_Goes.f k a3 a4_0 a4_1 a4_2 a4_3 a5).bind fun t488 => ((mutoscoperef5_Goes.f k a3 a4_0 a4_1 a4_2 a4_3 a5).bind fun t489 => (if t488 = t489 then ((key_Goes.f k (Go.bits .and .i64 a3 3) a4_0 a4_1 a4_2 a4_3 (Go.bits .and .i64 a5 65535)).bind fun t490 => ((mutoscoperef5_Goes.f k (Go.bits .and .i64 a3 3) a4_0 a4_1 a4_2 a4_3 (Go.bits .and .i64 a5 65535)).bind fun t491 => (if t490 = t491 then ((mutoscopelaw5_known.f k).bind fun t492 => (some t492)) else (none)))) else (none)))) else (none)) = some r := H
     have A14 := Aside0.mk A140
     clear A140
     by_cases c15 : t487 = true
     ·subst c15
      have H1 : ((key_Goes.f k a3 a4_0 a4_1 a4_2 a4_3 a5).bind fun t488 => ((mutoscoperef5_Goes.f k a3 a4_0 a4_1 a4_2 a4_3 a5).bind fun t489 => (if t488 = t489 then ((key_Goes.f k (Go.bits .and .i64 a3 3) a4_0 a4_1 a4_2 a4_3 (Go.bits .and .i64 a5 65535)).bind fun t490 => ((mutoscoperef5_Goes.f k (Go.bits .and .i64 a3 3) a4_0 a4_1 a4_2 a4_3 (Go.bits .and .i64 a5 65535)).bind fun t491 => (if t490 = t491 then ((mutoscopelaw5_known.f k).bind fun t492 => (some t492)) else (none)))) else (none)))) = some r := by rw [if_pos rfl] at H; exact H
      clear H
      have H := H1
      clear H1
      replace H := Option.bind_eq_some_iff.mp H
      obtain ⟨t488, A160, H⟩ := H
      replace H : ((mutoscoperef5_Goes.f k a3 a4_0 a4_1 a4_2 a4_3 a5).bind fun t489 => (if t488 = t489 then ((key_Goes.f k (Go.bits .and .i64 a3 3) a4_0 a4_1 a4_2 a4_3 (Go.bits .and .i64 a5 65535)).bind fun t490 => ((mutoscoperef5_Goes.f k (Go.bits .and .i64 a3 3) a4_0 a4_1 a4_2 a4_3 (Go.bits .and .i64 a5 65535)).bind fun t491 => (if t490 = t491 then ((mutoscopelaw5_known.f k).bind fun t492 => (some t492)) else (none)))) else (none))) = some r := H
      have A16 := Aside0.mk A160
      clear A160
      replace H := Option.bind_eq_some_iff.mp H
      obtain ⟨t489, A170, H⟩ := H
      replace H : (if t488 = t489 then ((key_Goes.f k (Go.bits .and .i64 a3 3) a4_0 a4_1 a4_2 a4_3 (Go.bits .and .i64 a5 65535)).bind fun t490 => ((mutoscoperef5_Goes.f k (Go.bits .and .i64 a3 3) a4_0 a4_1 a4_2 a4_3 (Go.bits .and .i64 a5 65535)).bind fun t491 => (if t490 = t491 then ((mutoscopelaw5_known.f k).bind fun t492 => (some t492)) else (none)))) else (none)) = some r := H
      have A17 := Aside0.mk A170
      clear A170
      by_cases c18 : t488 = t489
      ·rw [if_pos c18] at H
       have c18b0 : (t488 == t489) = true := beq_iff_eq.mpr c18
       have c18b1 : (t488 != t489) = false := bne_eq_false_iff_eq.mpr c18
       clear c18
       replace H := Option.bind_eq_some_iff.mp H
       obtain ⟨t490, A190, H⟩ := H
       replace H : ((mutoscoperef5_Goes.f k (Go.bits .and .i64 a3 3) a4_0 a4_1 a4_2 a4_3 (Go.bits .and .i64 a5 65535)).bind fun t491 => (if t490 = t491 then ((mutoscopelaw5_known.f k).bind fun t492 => (some t492)) else (none))) = some r := H
       have A19 := Aside0.mk A190
       clear A190
       replace H := Option.bind_eq_some_iff.mp H
       obtain ⟨t491, A200, H⟩ := H
       replace H : (if t490 = t491 then ((mutoscopelaw5_known.f k).bind fun t492 => (some t492)) else (none)) = some r := H
       have A20 := Aside0.mk A200
       clear A200
       by_cases c21 : t490 = t491
       ·rw [if_pos c21] at H
        have c21b0 : (t490 == t491) = true := beq_iff_eq.mpr c21
        have c21b1 : (t490 != t491) = false := bne_eq_false_iff_eq.mpr c21
        clear c21
        replace H := Option.bind_eq_some_iff.mp H
        obtain ⟨t492, A220, H⟩ := H
        replace H : (some t492) = some r := H
        have A22 := Aside0.mk A220
        clear A220
        obtain rfl := Option.some.inj H
        go_enter Try.func12, Try.ntmps12
        try go_wp2_with (first | ((with_reducible refine gate_dst (N := 10) rfl ?_); refine box_event ?hg (N := 10) ?hd (cs := #[.int .i64 a4_0, .int .i64 a4_1, .int .i64 a4_2, .int .i64 a4_3]) (t := 23) ?hr ?_; (case hd => rfl); (case hg => rfl); (case hr => first | (go_simp; done) | (go_simp; rfl)); intro gb477 hg w23 hbox hb; have n0_ := Aside0.mk (below_step (by repeat (first | (with_reducible first | exact HB.out | apply below_alloc | apply pw_below_drewN | apply below_drew1) | exact HB.out)) hb); have n1_ := Aside0.mk (hbox); have n2_ := Aside0.mk ((by rw [hg]; exact (below_size (by repeat (first | (with_reducible first | exact HB.out | apply below_alloc | apply pw_below_drewN | apply below_drew1) | exact HB.out))) : w.heap.size ≤ gb477)); have n3_ := Aside0.mk ((by rw [hg]; exact (below_size (by repeat (first | (with_reducible first | exact HB.out | apply below_alloc | apply pw_below_drewN | apply below_drew1) | exact HB.out))) : w.heap.size ≤ gb477)); clear HB; have HB := n0_; have BK477 := n1_; have GW477 := n2_; have GE477 := n3_; clear n0_ n1_ n2_ n3_; clear hb hbox hg; have q24 : (40 : Int) ≤ ((l0.length : Int) : Int) := of_decide_eq_true (by first | (with_reducible assumption) | assumption); obtain ⟨i024, hi024, _, hsz24, _⟩ := info_parts info34; have hroom24 : l0.length ≤ c0 := HC0.out; have hC24 : Kd.C k34 _ A0 l0.length l0 := HR0.out; have hcut24 := cut_to (P := Try.prog) 31 34 .i64 Try.underlying31 hi024 A0 l0.length c0 40 (by omega) q24 hroom24; have hr24 := Kd.C_take (m := 40) hC24 (by omega); have hy24 : y478.length = (40 : Int).toNat := (by rw [Ny478.out, List.length_take]; omega); rw [← Ny478.out] at hr24; rw [← hy24] at hcut24; have HR481 := Aside0.mk hr24; have HC481 := Aside0.mk (show y478.length ≤ c0 from by omega); clear hr24 hC24 hroom24 hi024 hsz24; have KY24 := Aside0.mk hy24; clear hy24; replace q24 := eq_true q24) | ((with_reducible refine gate_callee (f := 17) rfl ?_); refine goesL_ (some 20) rfl rfl Try.func17 (by kernel_rfl) rfl #[.slice A0 y478.length c0] rfl (by (try simp only [List.map_toArray, List.map_cons, List.map_nil]); first | done | rfl | (simp only [List.length_drop, List.length_take]; rfl)) ?_; (with_reducible refine (mutoscopelaw5_rising.calls k _ _ y478 t482 _ ?side1 ?side2 A9.out).mono ?_); (case side1 => repeat (first | exact (Kd.C_below HR481.out HB.out) | (with_reducible refine Kd.C_alloc ?_ _) | (with_reducible refine Kd.C_drewN ?_ _) | (with_reducible refine Kd.C_drew ?_))); (case side2 => exact HC481.out); rintro e w25 ⟨v483, rfl, ho0, hb⟩; refine ⟨_, rfl, ?_⟩; have n0_ := Aside0.mk (Kd.R_lower ho0 (below_size (by repeat (first | (with_reducible first | exact HB.out | apply below_alloc | apply pw_below_drewN | apply below_drew1 | refine below_set ?_ GE477.out) | exact HB.out)))); have n1_ := Aside0.mk (blk_below (g := gb477) (o := .cells #[.int .i64 a4_0, .int .i64 a4_1, .int .i64 a4_2, .int .i64 a4_3] 23 (0, 0)) (by (with_reducible repeat (first | refine blk_drewN ?_ _ | refine blk_drew ?_ | refine blk_alloc ?_ _)); exact BK477.out) hb); have n2_ := Aside0.mk (below_step (by repeat (first | (with_reducible first | exact HB.out | apply below_alloc | apply pw_below_drewN | apply below_drew1 | refine below_set ?_ GE477.out) | exact HB.out)) hb); clear BK477; clear HB; have HO484 := n0_; have BK477 := n1_; have HB := n2_; clear n0_ n1_ n2_; (try clear hb); (try clear hb2); (try clear hk); (try clear hi); (try clear ho0)))
        have n0_ := Aside0.mk (Kd.R_drew HO484.out)
        have n1_ := Aside0.mk (blk_drew BK477.out)
        have n2_ := Aside0.mk (below_drew1 HB.out)
        clear HO484
        clear BK477
        clear HB
        have HO484 := n0_
        have BK477 := n1_
        have HB := n2_
        clear n0_ n1_ n2_
        obtain ⟨Ao27, co27, eo27⟩ := Kd.R_slice HO484.out
        (first | subst eo27 | (injection eo27 with f1_ f2_ f3_; have f4_ := f1_.symm; have f5_ := f3_.symm; clear f1_ f2_ f3_; subst f4_; subst f5_))
        refine start_ (n := 49) (S := fun w' => w'.cell? ⟨gb477, 0, none⟩ = some (.int .i64 a4_0) ∧ w'.cell? ⟨gb477, 1, none⟩ = some (.int .i64 a4_1) ∧ w'.cell? ⟨gb477, 2, none⟩ = some (.int .i64 a4_2) ∧ w'.cell? ⟨gb477, 3, none⟩ = some (.int .i64 a4_3)) (ds := []) #[false, false, false, false, false, false, false, false, false, false, false, false, false, false, false, false, false, false, false, false, false, false, false, false, false, false, false, false, false, false, false, false, false, false, false, false, false, false, false, false, false, false, false, false, false, false, false, false, false] (by kernel_rfl) rfl rfl ⟨(blk_cell BK477.out 0).trans rfl, (blk_cell BK477.out 1).trans rfl, (blk_cell BK477.out 2).trans rfl, (blk_cell BK477.out 3).trans rfl⟩ (fun hHeld => ?_); refine with_tabW mutoscopelaw5_KeyTells.tab4 mutoscopelaw5_KeyTells.bits4 (fun HT_ HW_ => ?_)
        generalize w25.drew = w26 at HO484 BK477 HB hHeld ⊢
        refine pure_ (i := 0) (N := some 21) (v := ?_) (a' := ?_) #[true, false, false, false, false, false, false, false, false, false, false, false, false, false, false, false, false, false, false, false, false, false, false, false, false, false, false, false, false, false, false, false, false, false, false, false, false, false, false, false, false, false, false, false, false, false, false, false, false] rfl rfl (any_of HT_.out (by kernel_rfl)) (fun _ _ _ h => h) (Or.inl ⟨by rfl, ?_⟩) ?_ ?_
        rotate_left
        ·intro w'
         go_simp
         with_reducible rfl
        rotate_left
        ·simp only [Act.put, List.setIfInBounds_toArray, List.set_cons_zero, List.set_cons_succ, i64_w, i32_w]
         rfl
        refine pure_ (i := 1) (N := some 22) (v := ?_) (a' := ?_) #[true, true, false, false, false, false, false, false, false, false, false, false, false, false, false, false, false, false, false, false, false, false, false, false, false, false, false, false, false, false, false, false, false, false, false, false, false, false, false, false, false, false, false, false, false, false, false, false, false] rfl rfl (any_of HT_.out (by kernel_rfl)) (fun _ _ _ h => h) (Or.inl ⟨by rfl, ?_⟩) ?_ ?_
        rotate_left
        ·intro w'
         go_simp
         with_reducible rfl
        rotate_left
        ·simp only [Act.put, List.setIfInBounds_toArray, List.set_cons_zero, List.set_cons_succ, i64_w, i32_w]
         rfl
        refine pure_ (i := 2) (N := some 23) (v := ?_) (a' := ?_) #[true, true, true, false, false, false, false, false, false, false, false, false, false, false, false, false, false, false, false, false, false, false, false, false, false, false, false, false, false, false, false, false, false, false, false, false, false, false, false, false, false, false, false, false, false, false, false, false, false] rfl rfl (any_of HT_.out (by kernel_rfl)) (fun _ _ _ h => h) (Or.inl ⟨by rfl, ?_⟩) ?_ ?_
        rotate_left
        ·intro w'
         go_simp
         with_reducible rfl
        rotate_left
        ·simp only [Act.put, List.setIfInBounds_toArray, List.set_cons_zero, List.set_cons_succ, i64_w, i32_w]
         rfl
        refine pure_ (i := 3) (N := some 24) (v := ?_) (a' := ?_) #[true, true, true, true, false, false, false, false, false, false, false, false, false, false, false, false, false, false, false, false, false, false, false, false, false, false, false, false, false, false, false, false, false, false, false, false, false, false, false, false, false, false, false, false, false, false, false, false, false] rfl rfl (any_of HT_.out (by kernel_rfl)) (fun _ _ _ h => h) (Or.inl ⟨by rfl, ?_⟩) ?_ ?_
        rotate_left
        ·intro w'
         go_simp
         with_reducible rfl
        rotate_left
        ·simp only [Act.put, List.setIfInBounds_toArray, List.set_cons_zero, List.set_cons_succ, i64_w, i32_w]
         rfl
        refine pure_ (i := 4) (N := some 25) (v := ?_) (a' := ?_) #[true, true, true, true, true, false, false, false, false, false, false, false, false, false, false, false, false, false, false, false, false, false, false, false, false, false, false, false, false, false, false, false, false, false, false, false, false, false, false, false, false, false, false, false, false, false, false, false, false] rfl rfl (any_of HT_.out (by kernel_rfl)) (fun _ _ _ h => h) (Or.inl ⟨by rfl, ?_⟩) ?_ ?_
        rotate_left
        ·intro w'
         go_simp
         with_reducible rfl
        rotate_left
        ·simp only [Act.put, List.setIfInBounds_toArray, List.set_cons_zero, List.set_cons_succ, i64_w, i32_w]
         rfl
        refine one_ (i := 5) (N := some 26) #[true, true, true, true, true, true, false, false, false, false, false, false, false, false, false, false, false, false, false, false, false, false, false, false, false, false, false, false, false, false, false, false, false, false, false, false, false, false, false, false, false, false, false, false, false, false, false, false, false] rfl rfl (one_of HT_.out (by kernel_rfl)) (by decide) (fun K hK => ?_)
        refine goes_ Try.func26 (by kernel_rfl) rfl #[.slice Ao27 t482.length co27, .int .i64 (wrap64 ((Go.bits .and .i64 a1 255) - 9)), .int .i64 a2] (by rfl) rfl rfl (by (try simp only [List.map_toArray, List.map_cons, List.map_nil]); first | done | rfl | (simp only [List.length_drop, List.length_take]; rfl)) ?_
        with_reducible refine (mutoscopelaw5_same.calls k _ _ t482 (wrap64 ((Go.bits .and .i64 a1 255) - 9)) a2 true _ ?side1 ?side2 A10.out).mono ?_
        (case side1 => repeat (first | exact (Kd.R_reads' HO484.out).2.2 | (with_reducible refine Kd.C_alloc ?_ _) | (with_reducible refine Kd.C_drewN ?_ _) | (with_reducible refine Kd.C_drew ?_)))
        (case side2 => exact (Kd.R_reads' HO484.out).2.1)
        rintro e w28 ⟨rfl, hb⟩
        refine ⟨_, rfl, ?_⟩
        have n0_ := Aside0.mk (Kd.R_below (by (with_reducible repeat (first | apply Kd.R_alloc | apply Kd.R_drewN | apply Kd.R_drew)); exact HO484.out) hb)
        have n1_ := Aside0.mk (blk_below (g := gb477) (o := .cells #[.int .i64 a4_0, .int .i64 a4_1, .int .i64 a4_2, .int .i64 a4_3] 23 (0, 0)) (by (with_reducible repeat (first | refine blk_drewN ?_ _ | refine blk_drew ?_ | refine blk_alloc ?_ _)); exact BK477.out) hb)
        have n2_ := Aside0.mk (below_step (by repeat (first | (with_reducible first | exact HB.out | apply below_alloc | apply pw_below_drewN | apply below_drew1 | refine below_set ?_ GE477.out) | exact HB.out)) hb)
        clear HO484
        clear BK477
        clear HB
        have HO484 := n0_
        have BK477 := n1_
        have HB := n2_
        clear n0_ n1_ n2_
        (try clear hb)
        (try clear hb2)
        (try clear hk)
        (try clear hi)
        refine hK.out _ _ ⟨(blk_cell BK477.out 0).trans rfl, (blk_cell BK477.out 1).trans rfl, (blk_cell BK477.out 2).trans rfl, (blk_cell BK477.out 3).trans rfl⟩ (fun hHeld => ?_)
        clear hK K
        refine norm_ (a' := ?_) ?_ ?_
        rotate_left
        ·show Act.put _ (some 26) _ = _
         simp only [Act.put, List.setIfInBounds_toArray, List.set_cons_zero, List.set_cons_succ, i64_w, i32_w]
         rfl
        refine pure_ (i := 6) (N := some 27) (v := ?_) (a' := ?_) #[true, true, true, true, true, true, true, false, false, false, false, false, false, false, false, false, false, false, false, false, false, false, false, false, false, false, false, false, false, false, false, false, false, false, false, false, false, false, false, false, false, false, false, false, false, false, false, false, false] rfl rfl (any_of HT_.out (by kernel_rfl)) (fun _ _ _ h => h) (Or.inl ⟨by rfl, ?_⟩) ?_ ?_
        rotate_left
        ·intro w'
         go_simp
         with_reducible rfl
        rotate_left
        ·simp only [Act.put, List.setIfInBounds_toArray, List.set_cons_zero, List.set_cons_succ, i64_w, i32_w]
         rfl
        refine pure_ (i := 7) (N := some 28) (v := ?_) (a' := ?_) #[true, true, true, true, true, true, true, true, false, false, false, false, false, false, false, false, false, false, false, false, false, false, false, false, false, false, false, false, false, false, false, false, false, false, false, false, false, false, false, false, false, false, false, false, false, false, false, false, false] rfl rfl (any_of HT_.out (by kernel_rfl)) (fun _ _ _ h => h) (Or.inl ⟨by rfl, ?_⟩) ?_ ?_
        rotate_left
        ·intro w'
         go_simp
         with_reducible rfl
        rotate_left
        ·simp only [Act.put, List.setIfInBounds_toArray, List.set_cons_zero, List.set_cons_succ, i64_w, i32_w]
         rfl
        refine pure_ (i := 8) (N := some 29) (v := ?_) (a' := ?_) #[true, true, true, true, true, true, true, true, true, false, false, false, false, false, false, false, false, false, false, false, false, false, false, false, false, false, false, false, false, false, false, false, false, false, false, false, false, false, false, false, false, false, false, false, false, false, false, false, false] rfl rfl (any_of HT_.out (by kernel_rfl)) (fun _ _ _ h => h) (Or.inl ⟨by rfl, ?_⟩) ?_ ?_
        rotate_left
        ·intro w'
         go_simp
         with_reducible rfl
        rotate_left
        ·simp only [Act.put, List.setIfInBounds_toArray, List.set_cons_zero, List.set_cons_succ, i64_w, i32_w]
         rfl
        refine pure_ (i := 9) (N := some 30) (v := ?_) (a' := ?_) #[true, true, true, true, true, true, true, true, true, true, false, false, false, false, false, false, false, false, false, false, false, false, false, false, false, false, false, false, false, false, false, false, false, false, false, false, false, false, false, false, false, false, false, false, false, false, false, false, false] rfl rfl (any_of HT_.out (by kernel_rfl)) (fun _ _ _ h => h) (Or.inl ⟨by rfl, ?_⟩) ?_ ?_
        rotate_left
        ·intro w'
         go_simp
         with_reducible rfl
        rotate_left
        ·simp only [Act.put, List.setIfInBounds_toArray, List.set_cons_zero, List.set_cons_succ, i64_w, i32_w]
         rfl
        refine one_ (i := 10) (N := some 31) #[true, true, true, true, true, true, true, true, true, true, true, false, false, false, false, false, false, false, false, false, false, false, false, false, false, false, false, false, false, false, false, false, false, false, false, false, false, false, false, false, false, false, false, false, false, false, false, false, false] rfl rfl (one_of HT_.out (by kernel_rfl)) (by decide) (fun K hK => ?_)
        refine goes_ Try.func26 (by kernel_rfl) rfl #[.slice Ao27 t482.length co27, .int .i64 a1, .int .i64 a2] (by rfl) rfl rfl (by (try simp only [List.map_toArray, List.map_cons, List.map_nil]); first | done | rfl | (simp only [List.length_drop, List.length_take]; rfl)) ?_
        with_reducible refine (mutoscopelaw5_same.calls k _ _ t482 a1 a2 true _ ?side1 ?side2 A12.out).mono ?_
        (case side1 => repeat (first | exact (Kd.R_reads' HO484.out).2.2 | (with_reducible refine Kd.C_alloc ?_ _) | (with_reducible refine Kd.C_drewN ?_ _) | (with_reducible refine Kd.C_drew ?_)))
        (case side2 => exact (Kd.R_reads' HO484.out).2.1)
        rintro e w29 ⟨rfl, hb⟩
        refine ⟨_, rfl, ?_⟩
        have n0_ := Aside0.mk (Kd.R_below (by (with_reducible repeat (first | apply Kd.R_alloc | apply Kd.R_drewN | apply Kd.R_drew)); exact HO484.out) hb)
        have n1_ := Aside0.mk (blk_below (g := gb477) (o := .cells #[.int .i64 a4_0, .int .i64 a4_1, .int .i64 a4_2, .int .i64 a4_3] 23 (0, 0)) (by (with_reducible repeat (first | refine blk_drewN ?_ _ | refine blk_drew ?_ | refine blk_alloc ?_ _)); exact BK477.out) hb)
        have n2_ := Aside0.mk (below_step (by repeat (first | (with_reducible first | exact HB.out | apply below_alloc | apply pw_below_drewN | apply below_drew1 | refine below_set ?_ GE477.out) | exact HB.out)) hb)
        clear HO484
        clear BK477
        clear HB
        have HO484 := n0_
        have BK477 := n1_
        have HB := n2_
        clear n0_ n1_ n2_
        (try clear hb)
        (try clear hb2)
        (try clear hk)
        (try clear hi)
        refine hK.out _ _ ⟨(blk_cell BK477.out 0).trans rfl, (blk_cell BK477.out 1).trans rfl, (blk_cell BK477.out 2).trans rfl, (blk_cell BK477.out 3).trans rfl⟩ (fun hHeld => ?_)
        clear hK K
        refine norm_ (a' := ?_) ?_ ?_
        rotate_left
        ·show Act.put _ (some 31) _ = _
         simp only [Act.put, List.setIfInBounds_toArray, List.set_cons_zero, List.set_cons_succ, i64_w, i32_w]
         rfl
        refine pure_ (i := 11) (N := some 32) (v := ?_) (a' := ?_) #[true, true, true, true, true, true, true, true, true, true, true, true, false, false, false, false, false, false, false, false, false, false, false, false, false, false, false, false, false, false, false, false, false, false, false, false, false, false, false, false, false, false, false, false, false, false, false, false, false] rfl rfl (any_of HT_.out (by kernel_rfl)) (fun _ _ _ h => h) (Or.inl ⟨by rfl, ?_⟩) ?_ ?_
        rotate_left
        ·intro w'
         go_simp
         with_reducible rfl
        rotate_left
        ·simp only [Act.put, List.setIfInBounds_toArray, List.set_cons_zero, List.set_cons_succ, i64_w, i32_w]
         rfl
        refine pure_ (i := 12) (N := some 33) (v := ?_) (a' := ?_) #[true, true, true, true, true, true, true, true, true, true, true, true, true, false, false, false, false, false, false, false, false, false, false, false, false, false, false, false, false, false, false, false, false, false, false, false, false, false, false, false, false, false, false, false, false, false, false, false, false] rfl rfl (any_of HT_.out (by kernel_rfl)) (fun _ _ _ h => h) (Or.inl ⟨by rfl, ?_⟩) ?_ ?_
        rotate_left
        ·intro w'
         go_simp
         with_reducible rfl
        rotate_left
        ·simp only [Act.put, List.setIfInBounds_toArray, List.set_cons_zero, List.set_cons_succ, i64_w, i32_w]
         rfl
        refine pure_ (i := 13) (N := some 34) (v := ?_) (a' := ?_) #[true, true, true, true, true, true, true, true, true, true, true, true, true, true, false, false, false, false, false, false, false, false, false, false, false, false, false, false, false, false, false, false, false, false, false, false, false, false, false, false, false, false, false, false, false, false, false, false, false] rfl rfl (any_of HT_.out (by kernel_rfl)) (fun _ _ _ h => h) (Or.inl ⟨by rfl, ?_⟩) ?_ ?_
        rotate_left
        ·intro w'
         go_simp
         with_reducible rfl
        rotate_left
        ·simp only [Act.put, List.setIfInBounds_toArray, List.set_cons_zero, List.set_cons_succ, i64_w, i32_w]
         rfl
        refine pure_ (i := 14) (N := some 35) (v := ?_) (a' := ?_) #[true, true, true, true, true, true, true, true, true, true, true, true, true, true, true, false, false, false, false, false, false, false, false, false, false, false, false, false, false, false, false, false, false, false, false, false, false, false, false, false, false, false, false, false, false, false, false, false, false] rfl rfl (any_of HT_.out (by kernel_rfl)) (fun _ _ _ h => h) (Or.inl ⟨by rfl, ?_⟩) ?_ ?_
        rotate_left
        ·intro w'
         go_simp
         with_reducible rfl
        rotate_left
        ·simp only [Act.put, List.setIfInBounds_toArray, List.set_cons_zero, List.set_cons_succ, i64_w, i32_w]
         rfl
        refine pure_ (i := 15) (N := some 36) (v := ?_) (a' := ?_) #[true, true, true, true, true, true, true, true, true, true, true, true, true, true, true, true, false, false, false, false, false, false, false, false, false, false, false, false, false, false, false, false, false, false, false, false, false, false, false, false, false, false, false, false, false, false, false, false, false] rfl rfl (any_of HT_.out (by kernel_rfl)) (fun _ _ _ h => h) (Or.inl ⟨by rfl, ?_⟩) ?_ ?_
        rotate_left
        ·intro w'
         go_simp
         with_reducible rfl
        rotate_left
        ·simp only [Act.put, List.setIfInBounds_toArray, List.set_cons_zero, List.set_cons_succ, i64_w, i32_w]
         rfl
        refine pure_ (i := 16) (N := some 37) (v := ?_) (a' := ?_) #[true, true, true, true, true, true, true, true, true, true, true, true, true, true, true, true, true, false, false, false, false, false, false, false, false, false, false, false, false, false, false, false, false, false, false, false, false, false, false, false, false, false, false, false, false, false, false, false, false] rfl rfl (any_of HT_.out (by kernel_rfl)) (fun _ _ _ h => h) (Or.inl ⟨by rfl, ?_⟩) ?_ ?_
        rotate_left
        ·intro w'
         go_simp
         with_reducible rfl
        rotate_left
        ·simp only [Act.put, List.setIfInBounds_toArray, List.set_cons_zero, List.set_cons_succ, i64_w, i32_w]
         rfl
        refine one_ (i := 17) (N := some 38) #[true, true, true, true, true, true, true, true, true, true, true, true, true, true, true, true, true, true, false, false, false, false, false, false, false, false, false, false, false, false, false, false, false, false, false, false, false, false, false, false, false, false, false, false, false, false, false, false, false] rfl rfl (one_of HT_.out (by kernel_rfl)) (by decide) (fun K hK => ?_)
        refine goes_ Try.func26 (by kernel_rfl) rfl #[.slice A0 y478.length c0, .int .i64 (Go.bits .and .i64 a1 7), .int .i64 a2] (by rfl) rfl rfl (by (try simp only [List.map_toArray, List.map_cons, List.map_nil]); first | done | rfl | (simp only [List.length_drop, List.length_take]; rfl)) ?_
        with_reducible refine (mutoscopelaw5_same.calls k _ _ y478 (Go.bits .and .i64 a1 7) a2 true _ ?side1 ?side2 A14.out).mono ?_
        (case side1 => repeat (first | exact (Kd.C_below HR481.out HB.out) | (with_reducible refine Kd.C_alloc ?_ _) | (with_reducible refine Kd.C_drewN ?_ _) | (with_reducible refine Kd.C_drew ?_)))
        (case side2 => exact HC481.out)
        rintro e w30 ⟨rfl, hb⟩
        refine ⟨_, rfl, ?_⟩
        have n0_ := Aside0.mk (Kd.R_below (by (with_reducible repeat (first | apply Kd.R_alloc | apply Kd.R_drewN | apply Kd.R_drew)); exact HO484.out) hb)
        have n1_ := Aside0.mk (blk_below (g := gb477) (o := .cells #[.int .i64 a4_0, .int .i64 a4_1, .int .i64 a4_2, .int .i64 a4_3] 23 (0, 0)) (by (with_reducible repeat (first | refine blk_drewN ?_ _ | refine blk_drew ?_ | refine blk_alloc ?_ _)); exact BK477.out) hb)
        have n2_ := Aside0.mk (below_step (by repeat (first | (with_reducible first | exact HB.out | apply below_alloc | apply pw_below_drewN | apply below_drew1 | refine below_set ?_ GE477.out) | exact HB.out)) hb)
        clear HO484
        clear BK477
        clear HB
        have HO484 := n0_
        have BK477 := n1_
        have HB := n2_
        clear n0_ n1_ n2_
        (try clear hb)
        (try clear hb2)
        (try clear hk)
        (try clear hi)
        refine hK.out _ _ ⟨(blk_cell BK477.out 0).trans rfl, (blk_cell BK477.out 1).trans rfl, (blk_cell BK477.out 2).trans rfl, (blk_cell BK477.out 3).trans rfl⟩ (fun hHeld => ?_)
        clear hK K
        refine norm_ (a' := ?_) ?_ ?_
        rotate_left
        ·show Act.put _ (some 38) _ = _
         simp only [Act.put, List.setIfInBounds_toArray, List.set_cons_zero, List.set_cons_succ, i64_w, i32_w]
         rfl
        refine pure_ (i := 18) (N := some 39) (v := ?_) (a' := ?_) #[true, true, true, true, true, true, true, true, true, true, true, true, true, true, true, true, true, true, true, false, false, false, false, false, false, false, false, false, false, false, false, false, false, false, false, false, false, false, false, false, false, false, false, false, false, false, false, false, false] rfl rfl (any_of HT_.out (by kernel_rfl)) (fun _ _ _ h => h) (Or.inl ⟨by rfl, ?_⟩) ?_ ?_
        rotate_left
        ·intro w'
         go_simp
         with_reducible rfl
        rotate_left
        ·simp only [Act.put, List.setIfInBounds_toArray, List.set_cons_zero, List.set_cons_succ, i64_w, i32_w]
         rfl
        refine pure_ (i := 19) (N := some 40) (v := ?_) (a' := ?_) #[true, true, true, true, true, true, true, true, true, true, true, true, true, true, true, true, true, true, true, true, false, false, false, false, false, false, false, false, false, false, false, false, false, false, false, false, false, false, false, false, false, false, false, false, false, false, false, false, false] rfl rfl (any_of HT_.out (by kernel_rfl)) (fun _ _ _ h => h) (Or.inl ⟨by rfl, ?_⟩) ?_ ?_
        rotate_left
        ·intro w'
         go_simp
         with_reducible rfl
        rotate_left
        ·simp only [Act.put, List.setIfInBounds_toArray, List.set_cons_zero, List.set_cons_succ, i64_w, i32_w]
         rfl
        refine pure_ (i := 20) (N := some 41) (v := ?_) (a' := ?_) #[true, true, true, true, true, true, true, true, true, true, true, true, true, true, true, true, true, true, true, true, true, false, false, false, false, false, false, false, false, false, false, false, false, false, false, false, false, false, false, false, false, false, false, false, false, false, false, false, false] rfl rfl (any_of HT_.out (by kernel_rfl)) (fun _ _ _ h => h) (Or.inl ⟨by rfl, ?_⟩) ?_ ?_
        rotate_left
        ·intro w'
         go_simp
         with_reducible rfl
        rotate_left
        ·simp only [Act.put, List.setIfInBounds_toArray, List.set_cons_zero, List.set_cons_succ, i64_w, i32_w]
         rfl
        refine pure_ (i := 22) (N := some 43) (v := ?_) (a' := ?_) #[true, true, true, true, true, true, true, true, true, true, true, true, true, true, true, true, true, true, true, true, true, false, true, false, false, false, false, false, false, false, false, false, false, false, false, false, false, false, false, false, false, false, false, false, false, false, false, false, false] rfl rfl (any_of HT_.out (by kernel_rfl)) (fun _ _ _ h => h) (Or.inl ⟨by rfl, ?_⟩) ?_ ?_
        rotate_left
        ·intro w'
         go_simp
         with_reducible rfl
        rotate_left
        ·simp only [Act.put, List.setIfInBounds_toArray, List.set_cons_zero, List.set_cons_succ, i64_w, i32_w]
         rfl
        refine pure_ (i := 24) (N := some 45) (v := ?_) (a' := ?_) #[true, true, true, true, true, true, true, true, true, true, true, true, true, true, true, true, true, true, true, true, true, false, true, false, true, false, false, false, false, false, false, false, false, false, false, false, false, false, false, false, false, false, false, false, false, false, false, false, false] rfl rfl (any_of HT_.out (by kernel_rfl)) (fun _ _ _ h => h) (Or.inl ⟨by rfl, ?_⟩) ?_ ?_
        rotate_left
        ·intro w'
         go_simp
         with_reducible rfl
        rotate_left
        ·simp only [Act.put, List.setIfInBounds_toArray, List.set_cons_zero, List.set_cons_succ, i64_w, i32_w]
         rfl
        refine pure_ (i := 26) (N := some 47) (v := ?_) (a' := ?_) #[true, true, true, true, true, true, true, true, true, true, true, true, true, true, true, true, true, true, true, true, true, false, true, false, true, false, true, false, false, false, false, false, false, false, false, false, false, false, false, false, false, false, false, false, false, false, false, false, false] rfl rfl (any_of HT_.out (by kernel_rfl)) (fun _ _ _ h => h) (Or.inl ⟨by rfl, ?_⟩) ?_ ?_
        rotate_left
        ·intro w'
         go_simp
         with_reducible rfl
        rotate_left
        ·simp only [Act.put, List.setIfInBounds_toArray, List.set_cons_zero, List.set_cons_succ, i64_w, i32_w]
         rfl
        refine take_ (i := 21) (N := some 42) (v := ?_) (a' := ?_) #[true, true, true, true, true, true, true, true, true, true, true, true, true, true, true, true, true, true, true, true, true, true, true, false, true, false, true, false, false, false, false, false, false, false, false, false, false, false, false, false, false, false, false, false, false, false, false, false, false] rfl rfl (take_ofW HT_.out HW_.out (by kernel_rfl)) (fun _ _ _ h => h) (Or.inl ⟨by rfl, ?_⟩) hHeld ?_ ?_
        rotate_left
        ·rintro w' ⟨s0, s1, s2, s3⟩
         go_simp
         with_reducible rfl
        rotate_left
        ·simp only [Act.put, List.setIfInBounds_toArray, List.set_cons_zero, List.set_cons_succ, i64_w, i32_w]
         rfl
        refine take_ (i := 25) (N := some 46) (v := ?_) (a' := ?_) #[true, true, true, true, true, true, true, true, true, true, true, true, true, true, true, true, true, true, true, true, true, true, true, false, true, true, true, false, false, false, false, false, false, false, false, false, false, false, false, false, false, false, false, false, false, false, false, false, false] rfl rfl (take_ofW HT_.out HW_.out (by kernel_rfl)) (fun _ _ _ h => h) (Or.inl ⟨by rfl, ?_⟩) hHeld ?_ ?_
        rotate_left
        ·rintro w' ⟨s0, s1, s2, s3⟩
         go_simp
         with_reducible rfl
        rotate_left
        ·simp only [Act.put, List.setIfInBounds_toArray, List.set_cons_zero, List.set_cons_succ, i64_w, i32_w]
         rfl
        refine one_ (i := 23) (N := some 44) #[true, true, true, true, true, true, true, true, true, true, true, true, true, true, true, true, true, true, true, true, true, true, true, true, true, true, true, false, false, false, false, false, false, false, false, false, false, false, false, false, false, false, false, false, false, false, false, false, false] rfl rfl (one_of HT_.out (by kernel_rfl)) (by decide) (fun K hK => ?_)
        refine goes_ Try.func27 (by kernel_rfl) rfl #[.int .i64 a3, .agg #[.int .i64 a4_0, .int .i64 a4_1, .int .i64 a4_2, .int .i64 a4_3], .int .i64 a5] (by rfl) rfl rfl (by (try simp only [List.map_toArray, List.map_cons, List.map_nil]); first | done | rfl | (simp only [List.length_drop, List.length_take]; rfl)) ?_
        with_reducible refine (key_Goes.calls k a3 a4_0 a4_1 a4_2 a4_3 a5 t488 _ A16.out).mono ?_
        rintro e w31 ⟨rfl, hb⟩
        refine ⟨_, rfl, ?_⟩
        have n0_ := Aside0.mk (Kd.R_below (by (with_reducible repeat (first | apply Kd.R_alloc | apply Kd.R_drewN | apply Kd.R_drew)); exact HO484.out) hb)
        have n1_ := Aside0.mk (blk_below (g := gb477) (o := .cells #[.int .i64 a4_0, .int .i64 a4_1, .int .i64 a4_2, .int .i64 a4_3] 23 (0, 0)) (by (with_reducible repeat (first | refine blk_drewN ?_ _ | refine blk_drew ?_ | refine blk_alloc ?_ _)); exact BK477.out) hb)
        have n2_ := Aside0.mk (below_step (by repeat (first | (with_reducible first | exact HB.out | apply below_alloc | apply pw_below_drewN | apply below_drew1 | refine below_set ?_ GE477.out) | exact HB.out)) hb)
        clear HO484
        clear BK477
        clear HB
        have HO484 := n0_
        have BK477 := n1_
        have HB := n2_
        clear n0_ n1_ n2_
        (try clear hb)
        (try clear hb2)
        (try clear hk)
        (try clear hi)
        refine hK.out _ _ ⟨(blk_cell BK477.out 0).trans rfl, (blk_cell BK477.out 1).trans rfl, (blk_cell BK477.out 2).trans rfl, (blk_cell BK477.out 3).trans rfl⟩ (fun hHeld => ?_)
        clear hK K
        refine norm_ (a' := ?_) ?_ ?_
        rotate_left
        ·show Act.put _ (some 44) _ = _
         simp only [Act.put, List.setIfInBounds_toArray, List.set_cons_zero, List.set_cons_succ, i64_w, i32_w]
         rfl
        refine one_ (i := 27) (N := some 48) #[true, true, true, true, true, true, true, true, true, true, true, true, true, true, true, true, true, true, true, true, true, true, true, true, true, true, true, true, false, false, false, false, false, false, false, false, false, false, false, false, false, false, false, false, false, false, false, false, false] rfl rfl (one_of HT_.out (by kernel_rfl)) (by decide) (fun K hK => ?_)
        refine goes_ Try.func28 (by kernel_rfl) rfl #[.int .i64 a3, .agg #[.int .i64 a4_0, .int .i64 a4_1, .int .i64 a4_2, .int .i64 a4_3], .int .i64 a5] (by rfl) rfl rfl (by (try simp only [List.map_toArray, List.map_cons, List.map_nil]); first | done | rfl | (simp only [List.length_drop, List.length_take]; rfl)) ?_
        with_reducible refine (mutoscoperef5_Goes.calls k a3 a4_0 a4_1 a4_2 a4_3 a5 t489 _ A17.out).mono ?_
        rintro e w32 ⟨rfl, hb⟩
        refine ⟨_, rfl, ?_⟩
        have n0_ := Aside0.mk (Kd.R_below (by (with_reducible repeat (first | apply Kd.R_alloc | apply Kd.R_drewN | apply Kd.R_drew)); exact HO484.out) hb)
        have n1_ := Aside0.mk (blk_below (g := gb477) (o := .cells #[.int .i64 a4_0, .int .i64 a4_1, .int .i64 a4_2, .int .i64 a4_3] 23 (0, 0)) (by (with_reducible repeat (first | refine blk_drewN ?_ _ | refine blk_drew ?_ | refine blk_alloc ?_ _)); exact BK477.out) hb)
        have n2_ := Aside0.mk (below_step (by repeat (first | (with_reducible first | exact HB.out | apply below_alloc | apply pw_below_drewN | apply below_drew1 | refine below_set ?_ GE477.out) | exact HB.out)) hb)
        clear HO484
        clear BK477
        clear HB
        have HO484 := n0_
        have BK477 := n1_
        have HB := n2_
        clear n0_ n1_ n2_
        (try clear hb)
        (try clear hb2)
        (try clear hk)
        (try clear hi)
        refine hK.out _ _ ⟨(blk_cell BK477.out 0).trans rfl, (blk_cell BK477.out 1).trans rfl, (blk_cell BK477.out 2).trans rfl, (blk_cell BK477.out 3).trans rfl⟩ (fun hHeld => ?_)
        clear hK K
        refine norm_ (a' := ?_) ?_ ?_
        rotate_left
        ·show Act.put _ (some 48) _ = _
         simp only [Act.put, List.setIfInBounds_toArray, List.set_cons_zero, List.set_cons_succ, i64_w, i32_w]
         rfl
        refine pure_ (i := 28) (N := some 49) (v := ?_) (a' := ?_) #[true, true, true, true, true, true, true, true, true, true, true, true, true, true, true, true, true, true, true, true, true, true, true, true, true, true, true, true, true, false, false, false, false, false, false, false, false, false, false, false, false, false, false, false, false, false, false, false, false] rfl rfl (any_of HT_.out (by kernel_rfl)) (fun _ _ _ h => h) (Or.inl ⟨by rfl, ?_⟩) ?_ ?_
        rotate_left
        ·intro w'
         go_simp
         with_reducible rfl
        rotate_left
        ·simp only [Act.put, List.setIfInBounds_toArray, List.set_cons_zero, List.set_cons_succ, i64_w, i32_w]
         rfl
        refine pure_ (i := 29) (N := some 50) (v := ?_) (a' := ?_) #[true, true, true, true, true, true, true, true, true, true, true, true, true, true, true, true, true, true, true, true, true, true, true, true, true, true, true, true, true, true, false, false, false, false, false, false, false, false, false, false, false, false, false, false, false, false, false, false, false] rfl rfl (any_of HT_.out (by kernel_rfl)) (fun _ _ _ h => h) (Or.inl ⟨by rfl, ?_⟩) ?_ ?_
        rotate_left
        ·intro w'
         go_simp
         with_reducible rfl
        rotate_left
        ·simp only [Act.put, List.setIfInBounds_toArray, List.set_cons_zero, List.set_cons_succ, i64_w, i32_w]
         rfl
        refine pure_ (i := 30) (N := some 51) (v := ?_) (a' := ?_) #[true, true, true, true, true, true, true, true, true, true, true, true, true, true, true, true, true, true, true, true, true, true, true, true, true, true, true, true, true, true, true, false, false, false, false, false, false, false, false, false, false, false, false, false, false, false, false, false, false] rfl rfl (any_of HT_.out (by kernel_rfl)) (fun _ _ _ h => h) (Or.inl ⟨by rfl, ?_⟩) ?_ ?_
        rotate_left
        ·intro w'
         go_simp
         with_reducible rfl
        rotate_left
        ·simp only [Act.put, List.setIfInBounds_toArray, List.set_cons_zero, List.set_cons_succ, i64_w, i32_w]
         rfl
        refine pure_ (i := 31) (N := some 52) (v := ?_) (a' := ?_) #[true, true, true, true, true, true, true, true, true, true, true, true, true, true, true, true, true, true, true, true, true, true, true, true, true, true, true, true, true, true, true, true, false, false, false, false, false, false, false, false, false, false, false, false, false, false, false, false, false] rfl rfl (any_of HT_.out (by kernel_rfl)) (fun _ _ _ h => h) (Or.inl ⟨by rfl, ?_⟩) ?_ ?_
        rotate_left
        ·intro w'
         go_simp
         with_reducible rfl
        rotate_left
        ·simp only [Act.put, List.setIfInBounds_toArray, List.set_cons_zero, List.set_cons_succ, i64_w, i32_w]
         rfl
        refine pure_ (i := 32) (N := some 53) (v := ?_) (a' := ?_) #[true, true, true, true, true, true, true, true, true, true, true, true, true, true, true, true, true, true, true, true, true, true, true, true, true, true, true, true, true, true, true, true, true, false, false, false, false, false, false, false, false, false, false, false, false, false, false, false, false] rfl rfl (any_of HT_.out (by kernel_rfl)) (fun _ _ _ h => h) (Or.inl ⟨by rfl, ?_⟩) ?_ ?_
        rotate_left
        ·intro w'
         go_simp
         with_reducible rfl
        rotate_left
        ·simp only [Act.put, List.setIfInBounds_toArray, List.set_cons_zero, List.set_cons_succ, i64_w, i32_w]
         rfl
        refine pure_ (i := 34) (N := some 55) (v := ?_) (a' := ?_) #[true, true, true, true, true, true, true, true, true, true, true, true, true, true, true, true, true, true, true, true, true, true, true, true, true, true, true, true, true, true, true, true, true, false, true, false, false, false, false, false, false, false, false, false, false, false, false, false, false] rfl rfl (any_of HT_.out (by kernel_rfl)) (fun _ _ _ h => h) (Or.inl ⟨by rfl, ?_⟩) ?_ ?_
        rotate_left
        ·intro w'
         go_simp
         with_reducible rfl
        rotate_left
        ·simp only [Act.put, List.setIfInBounds_toArray, List.set_cons_zero, List.set_cons_succ, i64_w, i32_w]
         rfl
        refine pure_ (i := 35) (N := some 56) (v := ?_) (a' := ?_) #[true, true, true, true, true, true, true, true, true, true, true, true, true, true, true, true, true, true, true, true, true, true, true, true, true, true, true, true, true, true, true, true, true, false, true, true, false, false, false, false, false, false, false, false, false, false, false, false, false] rfl rfl (any_of HT_.out (by kernel_rfl)) (fun _ _ _ h => h) (Or.inl ⟨by rfl, ?_⟩) ?_ ?_
        rotate_left
        ·intro w'
         go_simp
         with_reducible rfl
        rotate_left
        ·simp only [Act.put, List.setIfInBounds_toArray, List.set_cons_zero, List.set_cons_succ, i64_w, i32_w]
         rfl
        refine pure_ (i := 37) (N := some 58) (v := ?_) (a' := ?_) #[true, true, true, true, true, true, true, true, true, true, true, true, true, true, true, true, true, true, true, true, true, true, true, true, true, true, true, true, true, true, true, true, true, false, true, true, false, true, false, false, false, false, false, false, false, false, false, false, false] rfl rfl (any_of HT_.out (by kernel_rfl)) (fun _ _ _ h => h) (Or.inl ⟨by rfl, ?_⟩) ?_ ?_
        rotate_left
        ·intro w'
         go_simp
         with_reducible rfl
        rotate_left
        ·simp only [Act.put, List.setIfInBounds_toArray, List.set_cons_zero, List.set_cons_succ, i64_w, i32_w]
         rfl
        refine pure_ (i := 38) (N := some 59) (v := ?_) (a' := ?_) #[true, true, true, true, true, true, true, true, true, true, true, true, true, true, true, true, true, true, true, true, true, true, true, true, true, true, true, true, true, true, true, true, true, false, true, true, false, true, true, false, false, false, false, false, false, false, false, false, false] rfl rfl (any_of HT_.out (by kernel_rfl)) (fun _ _ _ h => h) (Or.inl ⟨by rfl, ?_⟩) ?_ ?_
        rotate_left
        ·intro w'
         go_simp
         with_reducible rfl
        rotate_left
        ·simp only [Act.put, List.setIfInBounds_toArray, List.set_cons_zero, List.set_cons_succ, i64_w, i32_w]
         rfl
        refine pure_ (i := 40) (N := some 61) (v := ?_) (a' := ?_) #[true, true, true, true, true, true, true, true, true, true, true, true, true, true, true, true, true, true, true, true, true, true, true, true, true, true, true, true, true, true, true, true, true, false, true, true, false, true, true, false, true, false, false, false, false, false, false, false, false] rfl rfl (any_of HT_.out (by kernel_rfl)) (fun _ _ _ h => h) (Or.inl ⟨by rfl, ?_⟩) ?_ ?_
        rotate_left
        ·intro w'
         go_simp
         with_reducible rfl
        rotate_left
        ·simp only [Act.put, List.setIfInBounds_toArray, List.set_cons_zero, List.set_cons_succ, i64_w, i32_w]
         rfl
        refine pure_ (i := 41) (N := some 62) (v := ?_) (a' := ?_) #[true, true, true, true, true, true, true, true, true, true, true, true, true, true, true, true, true, true, true, true, true, true, true, true, true, true, true, true, true, true, true, true, true, false, true, true, false, true, true, false, true, true, false, false, false, false, false, false, false] rfl rfl (any_of HT_.out (by kernel_rfl)) (fun _ _ _ h => h) (Or.inl ⟨by rfl, ?_⟩) ?_ ?_
        rotate_left
        ·intro w'
         go_simp
         with_reducible rfl
        rotate_left
        ·simp only [Act.put, List.setIfInBounds_toArray, List.set_cons_zero, List.set_cons_succ, i64_w, i32_w]
         rfl
        refine take_ (i := 33) (N := some 54) (v := ?_) (a' := ?_) #[true, true, true, true, true, true, true, true, true, true, true, true, true, true, true, true, true, true, true, true, true, true, true, true, true, true, true, true, true, true, true, true, true, true, true, true, false, true, true, false, true, true, false, false, false, false, false, false, false] rfl rfl (take_ofW HT_.out HW_.out (by kernel_rfl)) (fun _ _ _ h => h) (Or.inl ⟨by rfl, ?_⟩) hHeld ?_ ?_
        rotate_left
        ·rintro w' ⟨s0, s1, s2, s3⟩
         go_simp
         with_reducible rfl
        rotate_left
        ·simp only [Act.put, List.setIfInBounds_toArray, List.set_cons_zero, List.set_cons_succ, i64_w, i32_w]
         rfl
        refine take_ (i := 39) (N := some 60) (v := ?_) (a' := ?_) #[true, true, true, true, true, true, true, true, true, true, true, true, true, true, true, true, true, true, true, true, true, true, true, true, true, true, true, true, true, true, true, true, true, true, true, true, false, true, true, true, true, true, false, false, false, false, false, false, false] rfl rfl (take_ofW HT_.out HW_.out (by kernel_rfl)) (fun _ _ _ h => h) (Or.inl ⟨by rfl, ?_⟩) hHeld ?_ ?_
        rotate_left
        ·rintro w' ⟨s0, s1, s2, s3⟩
         go_simp
         with_reducible rfl
        rotate_left
        ·simp only [Act.put, List.setIfInBounds_toArray, List.set_cons_zero, List.set_cons_succ, i64_w, i32_w]
         rfl
        refine one_ (i := 36) (N := some 57) #[true, true, true, true, true, true, true, true, true, true, true, true, true, true, true, true, true, true, true, true, true, true, true, true, true, true, true, true, true, true, true, true, true, true, true, true, true, true, true, true, true, true, false, false, false, false, false, false, false] rfl rfl (one_of HT_.out (by kernel_rfl)) (by decide) (fun K hK => ?_)
        refine goes_ Try.func27 (by kernel_rfl) rfl #[.int .i64 (Go.bits .and .i64 a3 3), .agg #[.int .i64 a4_0, .int .i64 a4_1, .int .i64 a4_2, .int .i64 a4_3], .int .i64 (Go.bits .and .i64 a5 65535)] (by rfl) rfl rfl (by (try simp only [List.map_toArray, List.map_cons, List.map_nil]); first | done | rfl | (simp only [List.length_drop, List.length_take]; rfl)) ?_
        with_reducible refine (key_Goes.calls k (Go.bits .and .i64 a3 3) a4_0 a4_1 a4_2 a4_3 (Go.bits .and .i64 a5 65535) t490 _ A19.out).mono ?_
        rintro e w33 ⟨rfl, hb⟩
        refine ⟨_, rfl, ?_⟩
        have n0_ := Aside0.mk (Kd.R_below (by (with_reducible repeat (first | apply Kd.R_alloc | apply Kd.R_drewN | apply Kd.R_drew)); exact HO484.out) hb)
        have n1_ := Aside0.mk (blk_below (g := gb477) (o := .cells #[.int .i64 a4_0, .int .i64 a4_1, .int .i64 a4_2, .int .i64 a4_3] 23 (0, 0)) (by (with_reducible repeat (first | refine blk_drewN ?_ _ | refine blk_drew ?_ | refine blk_alloc ?_ _)); exact BK477.out) hb)
        have n2_ := Aside0.mk (below_step (by repeat (first | (with_reducible first | exact HB.out | apply below_alloc | apply pw_below_drewN | apply below_drew1 | refine below_set ?_ GE477.out) | exact HB.out)) hb)
        clear HO484
        clear BK477
        clear HB
        have HO484 := n0_
        have BK477 := n1_
        have HB := n2_
        clear n0_ n1_ n2_
        (try clear hb)
        (try clear hb2)
        (try clear hk)
        (try clear hi)
        refine hK.out _ _ ⟨(blk_cell BK477.out 0).trans rfl, (blk_cell BK477.out 1).trans rfl, (blk_cell BK477.out 2).trans rfl, (blk_cell BK477.out 3).trans rfl⟩ (fun hHeld => ?_)
        clear hK K
        refine norm_ (a' := ?_) ?_ ?_
        rotate_left
        ·show Act.put _ (some 57) _ = _
         simp only [Act.put, List.setIfInBounds_toArray, List.set_cons_zero, List.set_cons_succ, i64_w, i32_w]
         rfl
        refine one_ (i := 42) (N := some 63) #[true, true, true, true, true, true, true, true, true, true, true, true, true, true, true, true, true, true, true, true, true, true, true, true, true, true, true, true, true, true, true, true, true, true, true, true, true, true, true, true, true, true, true, false, false, false, false, false, false] rfl rfl (one_of HT_.out (by kernel_rfl)) (by decide) (fun K hK => ?_)
        refine goes_ Try.func28 (by kernel_rfl) rfl #[.int .i64 (Go.bits .and .i64 a3 3), .agg #[.int .i64 a4_0, .int .i64 a4_1, .int .i64 a4_2, .int .i64 a4_3], .int .i64 (Go.bits .and .i64 a5 65535)] (by rfl) rfl rfl (by (try simp only [List.map_toArray, List.map_cons, List.map_nil]); first | done | rfl | (simp only [List.length_drop, List.length_take]; rfl)) ?_
        with_reducible refine (mutoscoperef5_Goes.calls k (Go.bits .and .i64 a3 3) a4_0 a4_1 a4_2 a4_3 (Go.bits .and .i64 a5 65535) t491 _ A20.out).mono ?_
        rintro e w34 ⟨rfl, hb⟩
        refine ⟨_, rfl, ?_⟩
        have n0_ := Aside0.mk (Kd.R_below (by (with_reducible repeat (first | apply Kd.R_alloc | apply Kd.R_drewN | apply Kd.R_drew)); exact HO484.out) hb)
        have n1_ := Aside0.mk (blk_below (g := gb477) (o := .cells #[.int .i64 a4_0, .int .i64 a4_1, .int .i64 a4_2, .int .i64 a4_3] 23 (0, 0)) (by (with_reducible repeat (first | refine blk_drewN ?_ _ | refine blk_drew ?_ | refine blk_alloc ?_ _)); exact BK477.out) hb)
        have n2_ := Aside0.mk (below_step (by repeat (first | (with_reducible first | exact HB.out | apply below_alloc | apply pw_below_drewN | apply below_drew1 | refine below_set ?_ GE477.out) | exact HB.out)) hb)
        clear HO484
        clear BK477
        clear HB
        have HO484 := n0_
        have BK477 := n1_
        have HB := n2_
        clear n0_ n1_ n2_
        (try clear hb)
        (try clear hb2)
        (try clear hk)
        (try clear hi)
        refine hK.out _ _ ⟨(blk_cell BK477.out 0).trans rfl, (blk_cell BK477.out 1).trans rfl, (blk_cell BK477.out 2).trans rfl, (blk_cell BK477.out 3).trans rfl⟩ (fun hHeld => ?_)
        clear hK K
        refine norm_ (a' := ?_) ?_ ?_
        rotate_left
        ·show Act.put _ (some 63) _ = _
         simp only [Act.put, List.setIfInBounds_toArray, List.set_cons_zero, List.set_cons_succ, i64_w, i32_w]
         rfl
        refine pure_ (i := 43) (N := some 64) (v := ?_) (a' := ?_) #[true, true, true, true, true, true, true, true, true, true, true, true, true, true, true, true, true, true, true, true, true, true, true, true, true, true, true, true, true, true, true, true, true, true, true, true, true, true, true, true, true, true, true, true, false, false, false, false, false] rfl rfl (any_of HT_.out (by kernel_rfl)) (fun _ _ _ h => h) (Or.inl ⟨by rfl, ?_⟩) ?_ ?_
        rotate_left
        ·intro w'
         go_simp
         with_reducible rfl
        rotate_left
        ·simp only [Act.put, List.setIfInBounds_toArray, List.set_cons_zero, List.set_cons_succ, i64_w, i32_w]
         rfl
        refine pure_ (i := 44) (N := some 65) (v := ?_) (a' := ?_) #[true, true, true, true, true, true, true, true, true, true, true, true, true, true, true, true, true, true, true, true, true, true, true, true, true, true, true, true, true, true, true, true, true, true, true, true, true, true, true, true, true, true, true, true, true, false, false, false, false] rfl rfl (any_of HT_.out (by kernel_rfl)) (fun _ _ _ h => h) (Or.inl ⟨by rfl, ?_⟩) ?_ ?_
        rotate_left
        ·intro w'
         go_simp
         with_reducible rfl
        rotate_left
        ·simp only [Act.put, List.setIfInBounds_toArray, List.set_cons_zero, List.set_cons_succ, i64_w, i32_w]
         rfl
        refine pure_ (i := 45) (N := some 66) (v := ?_) (a' := ?_) #[true, true, true, true, true, true, true, true, true, true, true, true, true, true, true, true, true, true, true, true, true, true, true, true, true, true, true, true, true, true, true, true, true, true, true, true, true, true, true, true, true, true, true, true, true, true, false, false, false] rfl rfl (any_of HT_.out (by kernel_rfl)) (fun _ _ _ h => h) (Or.inl ⟨by rfl, ?_⟩) ?_ ?_
        rotate_left
        ·intro w'
         go_simp
         with_reducible rfl
        rotate_left
        ·simp only [Act.put, List.setIfInBounds_toArray, List.set_cons_zero, List.set_cons_succ, i64_w, i32_w]
         rfl
        refine one_ (i := 46) (N := some 67) #[true, true, true, true, true, true, true, true, true, true, true, true, true, true, true, true, true, true, true, true, true, true, true, true, true, true, true, true, true, true, true, true, true, true, true, true, true, true, true, true, true, true, true, true, true, true, true, false, false] rfl rfl (one_of HT_.out (by kernel_rfl)) (by decide) (fun K hK => ?_)
        refine goes_ Try.func20 (by kernel_rfl) rfl #[] (by rfl) rfl rfl (by (try simp only [List.map_toArray, List.map_cons, List.map_nil]); first | done | rfl | (simp only [List.length_drop, List.length_take]; rfl)) ?_
        with_reducible refine (mutoscopelaw5_known.calls k  t492 _ A22.out).mono ?_
        rintro e w35 ⟨rfl, hb⟩
        refine ⟨_, rfl, ?_⟩
        have n0_ := Aside0.mk (Kd.R_below (by (with_reducible repeat (first | apply Kd.R_alloc | apply Kd.R_drewN | apply Kd.R_drew)); exact HO484.out) hb)
        have n1_ := Aside0.mk (blk_below (g := gb477) (o := .cells #[.int .i64 a4_0, .int .i64 a4_1, .int .i64 a4_2, .int .i64 a4_3] 23 (0, 0)) (by (with_reducible repeat (first | refine blk_drewN ?_ _ | refine blk_drew ?_ | refine blk_alloc ?_ _)); exact BK477.out) hb)
        have n2_ := Aside0.mk (below_step (by repeat (first | (with_reducible first | exact HB.out | apply below_alloc | apply pw_below_drewN | apply below_drew1 | refine below_set ?_ GE477.out) | exact HB.out)) hb)
        clear HO484
        clear BK477
        clear HB
        have HO484 := n0_
        have BK477 := n1_
        have HB := n2_
        clear n0_ n1_ n2_
        (try clear hb)
        (try clear hb2)
        (try clear hk)
        (try clear hi)
        refine hK.out _ _ ⟨(blk_cell BK477.out 0).trans rfl, (blk_cell BK477.out 1).trans rfl, (blk_cell BK477.out 2).trans rfl, (blk_cell BK477.out 3).trans rfl⟩ (fun hHeld => ?_)
        clear hK K
        refine norm_ (a' := ?_) ?_ ?_
        rotate_left
        ·show Act.put _ (some 67) _ = _
         simp only [Act.put, List.setIfInBounds_toArray, List.set_cons_zero, List.set_cons_succ, i64_w, i32_w]
         rfl
        refine pure_ (i := 47) (N := some 68) (v := ?_) (a' := ?_) #[true, true, true, true, true, true, true, true, true, true, true, true, true, true, true, true, true, true, true, true, true, true, true, true, true, true, true, true, true, true, true, true, true, true, true, true, true, true, true, true, true, true, true, true, true, true, true, true, false] rfl rfl (any_of HT_.out (by kernel_rfl)) (fun _ _ _ h => h) (Or.inl ⟨by rfl, ?_⟩) ?_ ?_
        rotate_left
        ·intro w'
         go_simp
         with_reducible rfl
        rotate_left
        ·simp only [Act.put, List.setIfInBounds_toArray, List.set_cons_zero, List.set_cons_succ, i64_w, i32_w]
         rfl
        refine pure_ (i := 48) (N := some 12) (v := ?_) (a' := ?_) #[true, true, true, true, true, true, true, true, true, true, true, true, true, true, true, true, true, true, true, true, true, true, true, true, true, true, true, true, true, true, true, true, true, true, true, true, true, true, true, true, true, true, true, true, true, true, true, true, true] rfl rfl (any_of HT_.out (by kernel_rfl)) (fun _ _ _ h => h) (Or.inl ⟨by rfl, ?_⟩) ?_ ?_
        rotate_left
        ·intro w'
         go_simp
         with_reducible rfl
        rotate_left
        ·simp only [Act.put, List.setIfInBounds_toArray, List.set_cons_zero, List.set_cons_succ, i64_w, i32_w]
         rfl
        refine done_ (done_of HT_.out (by kernel_rfl)) ?_
        try go_wp2
        go_ret
        exact ⟨by first | rfl | (simp [errW_none, errW_some] <;> rfl) | (simp [*, errW_none, errW_some] <;> rfl), by repeat (first | (with_reducible first | exact HB.out | apply below_alloc | apply pw_below_drewN | apply below_drew1 | refine below_set ?_ GE477.out) | exact HB.out)⟩
       ·rw [if_neg c21] at H
        have c21b0 : (t490 == t491) = false := beq_eq_false_iff_ne.mpr c21
        have c21b1 : (t490 != t491) = true := bne_iff_ne.mpr c21
        exact absurd H (by simp)
      ·rw [if_neg c18] at H
       have c18b0 : (t488 == t489) = false := beq_eq_false_iff_ne.mpr c18
       have c18b1 : (t488 != t489) = true := bne_iff_ne.mpr c18
       exact absurd H (by simp)
     ·replace c15 := Bool.eq_false_iff.mpr c15
      subst c15
      have H1 : (none) = some r := by rw [if_neg (show ¬ (false = true) by decide)] at H; exact H
      clear H
      have H := H1
      clear H1
      exact absurd H (by simp)
    ·replace c13 := Bool.eq_false_iff.mpr c13
     subst c13
     have H1 : (none) = some r := by rw [if_neg (show ¬ (false = true) by decide)] at H; exact H
     clear H
     have H := H1
     clear H1
     exact absurd H (by simp)
   ·replace c11 := Bool.eq_false_iff.mpr c11
    subst c11
    have H1 : (none) = some r := by rw [if_neg (show ¬ (false = true) by decide)] at H; exact H
    clear H
    have H := H1
    clear H1
    exact absurd H (by simp)
  ·rw [if_neg c8] at H
   exact absurd H (by simp)
 ·rw [if_neg c7] at H
  have c7b0 : decide (40 < (l0.length : Int)) = false := decide_eq_false c7
  have c7b1 : decide (40 < l0.length) = false := decide_eq_false (by omega)
  clear c7
  replace H := Option.bind_eq_some_iff.mp H
  obtain ⟨t493, A360, H⟩ := H
  replace H : ((mutoscopelaw5_same.f k t493 (wrap64 ((Go.bits .and .i64 a1 255) - 9)) a2).bind fun t496 => (if t496 = true then ((mutoscopelaw5_same.f k t493 a1 a2).bind fun t497 => (if t497 = true then ((mutoscopelaw5_same.f k l0 (Go.bits .and .i64 a1 7) a2).bind fun t498 => (if t498 = true then ((key_Goes.f k a3 a4_0 a4_1 a4_2 a4_3 a5).bind fun t499 => ((mutoscoperef5_Goes.f k a3 a4_0 a4_1 a4_2 a4_3 a5).bind fun t500 => (if t499 = t500 then ((key_Goes.f k (Go.bits .and .i64 a3 3) a4_0 a4_1 a4_2 a4_3 (Go.bits .and .i64 a5 65535)).bind fun t501 => ((mutoscoperef5_Goes.f k (Go.bits .and .i64 a3 3) a4_0 a4_1 a4_2 a4_3 (Go.bits .and .i64 a5 65535)).bind fun t502 => (if t501 = t502 then ((mutoscopelaw5_known.f k).bind fun t503 => (some t503)) else (none)))) else (none)))) else (none))) else (none))) else (none))) = some r := H
  have A36 := Aside0.mk A360
  clear A360
  replace H := Option.bind_eq_some_iff.mp H
  obtain ⟨t496, A370, H⟩ := H
  replace H : (if t496 = true then ((mutoscopelaw5_same.f k t493 a1 a2).bind fun t497 => (if t497 = true then ((mutoscopelaw5_same.f k l0 (Go.bits .and .i64 a1 7) a2).bind fun t498 => (if t498 = true then ((key_Goes.f k a3 a4_0 a4_1 a4_2 a4_3 a5).bind fun t499 => ((mutoscoperef5_Goes.f k a3 a4_0 a4_1 a4_2 a4_3 a5).bind fun t500 => (if t499 = t500 then ((key_Goes.f k (Go.bits .and .i64 a3 3) a4_0 a4_1 a4_2 a4_3 (Go.bits .and .i64 a5 65535)).bind fun t501 => ((mutoscoperef5_Goes.f k (Go.bits .and .i64 a3 3) a4_0 a4_1 a4_2 a4_3 (Go.bits .and .i64 a5 65535)).bind fun t502 => (if t501 = t502 then ((mutoscopelaw5_known.f k).bind fun t503 => (some t503)) else (none)))) else (none)))) else (none))) else (none))) else (none)) = some r := H
  have A37 := Aside0.mk A370
  clear A370
  by_cases c38 : t496 = true
  ·subst c38
   have H1 : ((mutoscopelaw5_same.f k t493 a1 a2).bind fun t497 => (if t497 = true then ((mutoscopelaw5_same.f k l0 (Go.bits .and .i64 a1 7) a2).bind fun t498 => (if t498 = true then ((key_Goes.f k a3 a4_0 a4_1 a4_2 a4_3 a5).bind fun t499 => ((mutoscoperef5_Goes.f k a3 a4_0 a4_1 a4_2 a4_3 a5).bind fun t500 => (if t499 = t500 then ((key_Goes.f k (Go.bits .and .i64 a3 3) a4_0 a4_1 a4_2 a4_3 (Go.bits .and .i64 a5 65535)).bind fun t501 => ((mutoscoperef5_Goes.f k (Go.bits .and .i64 a3 3) a4_0 a4_1 a4_2 a4_3 (Go.bits .and .i64 a5 65535)).bind fun t502 => (if t501 = t502 then ((mutoscopelaw5_known.f k).bind fun t503 => (some t503)) else (none)))) else (none)))) else (none))) else (none))) = some r := by rw [if_pos rfl] at H; exact H
   clear H
   have H := H1
   clear H1
   replace H := Option.bind_eq_some_iff.mp H
   obtain ⟨t497, A390, H⟩ := H
   replace H : (if t497 = true then ((mutoscopelaw5_same.f k l0 (Go.bits .and .i64 a1 7) a2).bind fun t498 => (if t498 = true then ((key_Goes.f k a3 a4_0 a4_1 a4_2 a4_3 a5).bind fun t499 => ((mutoscoperef5_Goes.f k a3 a4_0 a4_1 a4_2 a4_3 a5).bind fun t500 => (if t499 = t500 then ((key_Goes.f k (Go.bits .and .i64 a3 3) a4_0 a4_1 a4_2 a4_3 (Go.bits .and .i64 a5 65535)).bind fun t501 => ((mutoscoperef5_Goes.f k (Go.bits .and .i64 a3 3) a4_0 a4_1 a4_2 a4_3 (Go.bits .and .i64 a5 65535)).bind fun t502 => (if t501 = t502 then ((mutoscopelaw5_known.f k).bind fun t503 => (some t503)) else (none)))) else (none)))) else (none))) else (none)) = some r := H
   have A39 := Aside0.mk A390
   clear A390
   by_cases c40 : t497 = true
   ·subst c40
    have H1 : ((mutoscopelaw5_same.f k l0 (Go.bits .and .i64 a1 7) a2).bind fun t498 => (if t498 = true then ((key_Goes.f k a3 a4_0 a4_1 a4_2 a4_3 a5).bind fun t499 => ((mutoscoperef5_Goes.f k a3 a4_0 a4_1 a4_2 a4_3 a5).bind fun t500 => (if t499 = t500 then ((key_Goes.f k (Go.bits .and .i64 a3 3) a4_0 a4_1 a4_2 a4_3 (Go.bits .and .i64 a5 65535)).bind fun t501 => ((mutoscoperef5_Goes.f k (Go.bits .and .i64 a3 3) a4_0 a4_1 a4_2 a4_3 (Go.bits .and .i64 a5 65535)).bind fun t502 => (if t501 = t502 then ((mutoscopelaw5_known.f k).bind fun t503 => (some t503)) else (none)))) else (none)))) else (none))) = some r := by rw [if_pos rfl] at H; exact H
    clear H
    have H := H1
    clear H1
    replace H := Option.bind_eq_some_iff.mp H
    obtain ⟨t498, A410, H⟩ := H
    replace H : (if t498 = true then ((key_Goes.f k a3 a4_0 a4_1 a4_2 a4_3 a5).bind fun t499 => ((mutoscoperef5_Goes.f k a3 a4_0 a4_1 a4_2 a4_3 a5).bind fun t500 => (if t499 = t500 then ((key_Goes.f k (Go.bits .and .i64 a3 3) a4_0 a4_1 a4_2 a4_3 (Go.bits .and .i64 a5 65535)).bind fun t501 => ((mutoscoperef5_Goes.f k (Go.bits .and .i64 a3 3) a4_0 a4_1 a4_2 a4_3 (Go.bits .and .i64 a5 65535)).bind fun t502 => (if t501 = t502 then ((mutoscopelaw5_known.f k).bind fun t503 => (some t503)) else (none)))) else (none)))) else (none)) = some r := H
    have A41 := Aside0.mk A410
    clear A410
    by_cases c42 : t498 = true
    ·subst c42
     have H1 : ((key_Goes.f k a3 a4_0 a4_1 a4_2 a4_3 a5).bind fun t499 => ((mutoscoperef5_Goes.f k a3 a4_0 a4_1 a4_2 a4_3 a5).bind fun t500 => (if t499 = t500 then ((key_Goes.f k (Go.bits .and .i64 a3 3) a4_0 a4_1 a4_2 a4_3 (Go.bits .and .i64 a5 65535)).bind fun t501 => ((mutoscoperef5_Goes.f k (Go.bits .and .i64 a3 3) a4_0 a4_1 a4_2 a4_3 (Go.bits .and .i64 a5 65535)).bind fun t502 => (if t501 = t502 then ((mutoscopelaw5_known.f k).bind fun t503 => (some t503)) else (none)))) else (none)))) = some r := by rw [if_pos rfl] at H; exact H
     clear H
     have H := H1
     clear H1
     replace H := Option.bind_eq_some_iff.mp H
     obtain ⟨t499, A430, H⟩ := H
     replace H : ((mutoscoperef5_Goes.f k a3 a4_0 a4_1 a4_2 a4_3 a5).bind fun t500 => (if t499 = t500 then ((key_Goes.f k (Go.bits .and .i64 a3 3) a4_0 a4_1 a4_2 a4_3 (Go.bits .and .i64 a5 65535)).bind fun t501 => ((mutoscoperef5_Goes.f k (Go.bits .and .i64 a3 3) a4_0 a4_1 a4_2 a4_3 (Go.bits .and .i64 a5 65535)).bind fun t502 => (if t501 = t502 then ((mutoscopelaw5_known.f k).bind fun t503 => (some t503)) else (none)))) else (none))) = some r := H
     have A43 := Aside0.mk A430
     clear A430
     replace H := Option.bind_eq_some_iff.mp H
     obtain ⟨t500, A440, H⟩ := H
     replace H : (if t499 = t500 then ((key_Goes.f k (Go.bits .and .i64 a3 3) a4_0 a4_1 a4_2 a4_3 (Go.bits .and .i64 a5 65535)).bind fun t501 => ((mutoscoperef5_Goes.f k (Go.bits .and .i64 a3 3) a4_0 a4_1 a4_2 a4_3 (Go.bits .and .i64 a5 65535)).bind fun t502 => (if t501 = t502 then ((mutoscopelaw5_known.f k).bind fun t503 => (some t503)) else (none)))) else (none)) = some r := H
     have A44 := Aside0.mk A440
     clear A440
     by_cases c45 : t499 = t500
     ·rw [if_pos c45] at H
      have c45b0 : (t499 == t500) = true := beq_iff_eq.mpr c45
      have c45b1 : (t499 != t500) = false := bne_eq_false_iff_eq.mpr c45
      clear c45
      replace H := Option.bind_eq_some_iff.mp H
      obtain ⟨t501, A460, H⟩ := H
      replace H : ((mutoscoperef5_Goes.f k (Go.bits .and .i64 a3 3) a4_0 a4_1 a4_2 a4_3 (Go.bits .and .i64 a5 65535)).bind fun t502 => (if t501 = t502 then ((mutoscopelaw5_known.f k).bind fun t503 => (some t503)) else (none))) = some r := H
      have A46 := Aside0.mk A460
      clear A460
      replace H := Option.bind_eq_some_iff.mp H
      obtain ⟨t502, A470, H⟩ := H
      replace H : (if t501 = t502 then ((mutoscopelaw5_known.f k).bind fun t503 => (some t503)) else (none)) = some r := H
      have A47 := Aside0.mk A470
      clear A470
      by_cases c48 : t501 = t502
      ·rw [if_pos c48] at H
       have c48b0 : (t501 == t502) = true := beq_iff_eq.mpr c48
       have c48b1 : (t501 != t502) = false := bne_eq_false_iff_eq.mpr c48
       clear c48
       replace H := Option.bind_eq_some_iff.mp H
       obtain ⟨t503, A490, H⟩ := H
       replace H : (some t503) = some r := H
       have A49 := Aside0.mk A490
       clear A490
       obtain rfl := Option.some.inj H
       go_enter Try.func12, Try.ntmps12
       try go_wp2_with (first | ((with_reducible refine gate_dst (N := 10) rfl ?_); refine box_event ?hg (N := 10) ?hd (cs := #[.int .i64 a4_0, .int .i64 a4_1, .int .i64 a4_2, .int .i64 a4_3]) (t := 23) ?hr ?_; (case hd => rfl); (case hg => rfl); (case hr => first | (go_simp; done) | (go_simp; rfl)); intro gb477 hg w50 hbox hb; have n0_ := Aside0.mk (below_step (by repeat (first | (with_reducible first | exact HB.out | apply below_alloc | apply pw_below_drewN | apply below_drew1) | exact HB.out)) hb); have n1_ := Aside0.mk (hbox); have n2_ := Aside0.mk ((by rw [hg]; exact (below_size (by repeat (first | (with_reducible first | exact HB.out | apply below_alloc | apply pw_below_drewN | apply below_drew1) | exact HB.out))) : w.heap.size ≤ gb477)); have n3_ := Aside0.mk ((by rw [hg]; exact (below_size (by repeat (first | (with_reducible first | exact HB.out | apply below_alloc | apply pw_below_drewN | apply below_drew1) | exact HB.out))) : w.heap.size ≤ gb477)); clear HB; have HB := n0_; have BK477 := n1_; have GW477 := n2_; have GE477 := n3_; clear n0_ n1_ n2_ n3_; clear hb hbox hg) | ((with_reducible refine gate_callee (f := 17) rfl ?_); refine goesL_ (some 20) rfl rfl Try.func17 (by kernel_rfl) rfl #[.slice A0 l0.length c0] rfl (by (try simp only [List.map_toArray, List.map_cons, List.map_nil]); first | done | rfl | (simp only [List.length_drop, List.length_take]; rfl)) ?_; (with_reducible refine (mutoscopelaw5_rising.calls k _ _ l0 t493 _ ?side1 ?side2 A36.out).mono ?_); (case side1 => repeat (first | exact (Kd.C_below HR0.out HB.out) | (with_reducible refine Kd.C_alloc ?_ _) | (with_reducible refine Kd.C_drewN ?_ _) | (with_reducible refine Kd.C_drew ?_))); (case side2 => exact HC0.out); rintro e w51 ⟨v494, rfl, ho0, hb⟩; refine ⟨_, rfl, ?_⟩; have n0_ := Aside0.mk (Kd.R_lower ho0 (below_size (by repeat (first | (with_reducible first | exact HB.out | apply below_alloc | apply pw_below_drewN | apply below_drew1 | refine below_set ?_ GE477.out) | exact HB.out)))); have n1_ := Aside0.mk (blk_below (g := gb477) (o := .cells #[.int .i64 a4_0, .int .i64 a4_1, .int .i64 a4_2, .int .i64 a4_3] 23 (0, 0)) (by (with_reducible repeat (first | refine blk_drewN ?_ _ | refine blk_drew ?_ | refine blk_alloc ?_ _)); exact BK477.out) hb); have n2_ := Aside0.mk (below_step (by repeat (first | (with_reducible first | exact HB.out | apply below_alloc | apply pw_below_drewN | apply below_drew1 | refine below_set ?_ GE477.out) | exact HB.out)) hb); clear BK477; clear HB; have HO495 := n0_; have BK477 := n1_; have HB := n2_; clear n0_ n1_ n2_; (try clear hb); (try clear hb2); (try clear hk); (try clear hi); (try clear ho0)))
       have n0_ := Aside0.mk (Kd.R_drew HO495.out)
       have n1_ := Aside0.mk (blk_drew BK477.out)
       have n2_ := Aside0.mk (below_drew1 HB.out)
       clear HO495
       clear BK477
       clear HB
       have HO495 := n0_
       have BK477 := n1_
       have HB := n2_
       clear n0_ n1_ n2_
       obtain ⟨Ao53, co53, eo53⟩ := Kd.R_slice HO495.out
       (first | subst eo53 | (injection eo53 with f1_ f2_ f3_; have f4_ := f1_.symm; have f5_ := f3_.symm; clear f1_ f2_ f3_; subst f4_; subst f5_))
       refine start_ (n := 49) (S := fun w' => w'.cell? ⟨gb477, 0, none⟩ = some (.int .i64 a4_0) ∧ w'.cell? ⟨gb477, 1, none⟩ = some (.int .i64 a4_1) ∧ w'.cell? ⟨gb477, 2, none⟩ = some (.int .i64 a4_2) ∧ w'.cell? ⟨gb477, 3, none⟩ = some (.int .i64 a4_3)) (ds := []) #[false, false, false, false, false, false, false, false, false, false, false, false, false, false, false, false, false, false, false, false, false, false, false, false, false, false, false, false, false, false, false, false, false, false, false, false, false, false, false, false, false, false, false, false, false, false, false, false, false] (by kernel_rfl) rfl rfl ⟨(blk_cell BK477.out 0).trans rfl, (blk_cell BK477.out 1).trans rfl, (blk_cell BK477.out 2).trans rfl, (blk_cell BK477.out 3).trans rfl⟩ (fun hHeld => ?_); refine with_tabW mutoscopelaw5_KeyTells.tab4 mutoscopelaw5_KeyTells.bits4 (fun HT_ HW_ => ?_)
       generalize w51.drew = w52 at HO495 BK477 HB hHeld ⊢
       refine pure_ (i := 0) (N := some 21) (v := ?_) (a' := ?_) #[true, false, false, false, false, false, false, false, false, false, false, false, false, false, false, false, false, false, false, false, false, false, false, false, false, false, false, false, false, false, false, false, false, false, false, false, false, false, false, false, false, false, false, false, false, false, false, false, false] rfl rfl (any_of HT_.out (by kernel_rfl)) (fun _ _ _ h => h) (Or.inl ⟨by rfl, ?_⟩) ?_ ?_
       rotate_left
       ·intro w'
        go_simp
        with_reducible rfl
       rotate_left
       ·simp only [Act.put, List.setIfInBounds_toArray, List.set_cons_zero, List.set_cons_succ, i64_w, i32_w]
        rfl
       refine pure_ (i := 1) (N := some 22) (v := ?_) (a' := ?_) #[true, true, false, false, false, false, false, false, false, false, false, false, false, false, false, false, false, false, false, false, false, false, false, false, false, false, false, false, false, false, false, false, false, false, false, false, false, false, false, false, false, false, false, false, false, false, false, false, false] rfl rfl (any_of HT_.out (by kernel_rfl)) (fun _ _ _ h => h) (Or.inl ⟨by rfl, ?_⟩) ?_ ?_
       rotate_left
       ·intro w'
        go_simp
        with_reducible rfl
       rotate_left
       ·simp only [Act.put, List.setIfInBounds_toArray, List.set_cons_zero, List.set_cons_succ, i64_w, i32_w]
        rfl
       refine pure_ (i := 2) (N := some 23) (v := ?_) (a' := ?_) #[true, true, true, false, false, false, false, false, false, false, false, false, false, false, false, false, false, false, false, false, false, false, false, false, false, false, false, false, false, false, false, false, false, false, false, false, false, false, false, false, false, false, false, false, false, false, false, false, false] rfl rfl (any_of HT_.out (by kernel_rfl)) (fun _ _ _ h => h) (Or.inl ⟨by rfl, ?_⟩) ?_ ?_
       rotate_left
       ·intro w'
        go_simp
        with_reducible rfl
       rotate_left
       ·simp only [Act.put, List.setIfInBounds_toArray, List.set_cons_zero, List.set_cons_succ, i64_w, i32_w]
        rfl
       refine pure_ (i := 3) (N := some 24) (v := ?_) (a' := ?_) #[true, true, true, true, false, false, false, false, false, false, false, false, false, false, false, false, false, false, false, false, false, false, false, false, false, false, false, false, false, false, false, false, false, false, false, false, false, false, false, false, false, false, false, false, false, false, false, false, false] rfl rfl (any_of HT_.out (by kernel_rfl)) (fun _ _ _ h => h) (Or.inl ⟨by rfl, ?_⟩) ?_ ?_
       rotate_left
       ·intro w'
        go_simp
        with_reducible rfl
       rotate_left
       ·simp only [Act.put, List.setIfInBounds_toArray, List.set_cons_zero, List.set_cons_succ, i64_w, i32_w]
        rfl
       refine pure_ (i := 4) (N := some 25) (v := ?_) (a' := ?_) #[true, true, true, true, true, false, false, false, false, false, false, false, false, false, false, false, false, false, false, false, false, false, false, false, false, false, false, false, false, false, false, false, false, false, false, false, false, false, false, false, false, false, false, false, false, false, false, false, false] rfl rfl (any_of HT_.out (by kernel_rfl)) (fun _ _ _ h => h) (Or.inl ⟨by rfl, ?_⟩) ?_ ?_
       rotate_left
       ·intro w'
        go_simp
        with_reducible rfl
       rotate_left
       ·simp only [Act.put, List.setIfInBounds_toArray, List.set_cons_zero, List.set_cons_succ, i64_w, i32_w]
        rfl
       refine one_ (i := 5) (N := some 26) #[true, true, true, true, true, true, false, false, false, false, false, false, false, false, false, false, false, false, false, false, false, false, false, false, false, false, false, false, false, false, false, false, false, false, false, false, false, false, false, false, false, false, false, false, false, false, false, false, false] rfl rfl (one_of HT_.out (by kernel_rfl)) (by decide) (fun K hK => ?_)
       refine goes_ Try.func26 (by kernel_rfl) rfl #[.slice Ao53 t493.length co53, .int .i64 (wrap64 ((Go.bits .and .i64 a1 255) - 9)), .int .i64 a2] (by rfl) rfl rfl (by (try simp only [List.map_toArray, List.map_cons, List.map_nil]); first | done | rfl | (simp only [List.length_drop, List.length_take]; rfl)) ?_
       with_reducible refine (mutoscopelaw5_same.calls k _ _ t493 (wrap64 ((Go.bits .and .i64 a1 255) - 9)) a2 true _ ?side1 ?side2 A37.out).mono ?_
       (case side1 => repeat (first | exact (Kd.R_reads' HO495.out).2.2 | (with_reducible refine Kd.C_alloc ?_ _) | (with_reducible refine Kd.C_drewN ?_ _) | (with_reducible refine Kd.C_drew ?_)))
       (case side2 => exact (Kd.R_reads' HO495.out).2.1)
       rintro e w54 ⟨rfl, hb⟩
       refine ⟨_, rfl, ?_⟩
       have n0_ := Aside0.mk (Kd.R_below (by (with_reducible repeat (first | apply Kd.R_alloc | apply Kd.R_drewN | apply Kd.R_drew)); exact HO495.out) hb)
       have n1_ := Aside0.mk (blk_below (g := gb477) (o := .cells #[.int .i64 a4_0, .int .i64 a4_1, .int .i64 a4_2, .int .i64 a4_3] 23 (0, 0)) (by (with_reducible repeat (first | refine blk_drewN ?_ _ | refine blk_drew ?_ | refine blk_alloc ?_ _)); exact BK477.out) hb)
       have n2_ := Aside0.mk (below_step (by repeat (first | (with_reducible first | exact HB.out | apply below_alloc | apply pw_below_drewN | apply below_drew1 | refine below_set ?_ GE477.out) | exact HB.out)) hb)
       clear HO495
       clear BK477
       clear HB
       have HO495 := n0_
       have BK477 := n1_
       have HB := n2_
       clear n0_ n1_ n2_
       (try clear hb)
       (try clear hb2)
       (try clear hk)
       (try clear hi)
       refine hK.out _ _ ⟨(blk_cell BK477.out 0).trans rfl, (blk_cell BK477.out 1).trans rfl, (blk_cell BK477.out 2).trans rfl, (blk_cell BK477.out 3).trans rfl⟩ (fun hHeld => ?_)
       clear hK K
       refine norm_ (a' := ?_) ?_ ?_
       rotate_left
       ·show Act.put _ (some 26) _ = _
        simp only [Act.put, List.setIfInBounds_toArray, List.set_cons_zero, List.set_cons_succ, i64_w, i32_w]
        rfl
       refine pure_ (i := 6) (N := some 27) (v := ?_) (a' := ?_) #[true, true, true, true, true, true, true, false, false, false, false, false, false, false, false, false, false, false, false, false, false, false, false, false, false, false, false, false, false, false, false, false, false, false, false, false, false, false, false, false, false, false, false, false, false, false, false, false, false] rfl rfl (any_of HT_.out (by kernel_rfl)) (fun _ _ _ h => h) (Or.inl ⟨by rfl, ?_⟩) ?_ ?_
       rotate_left
       ·intro w'
        go_simp
        with_reducible rfl
       rotate_left
       ·simp only [Act.put, List.setIfInBounds_toArray, List.set_cons_zero, List.set_cons_succ, i64_w, i32_w]
        rfl
       refine pure_ (i := 7) (N := some 28) (v := ?_) (a' := ?_) #[true, true, true, true, true, true, true, true, false, false, false, false, false, false, false, false, false, false, false, false, false, false, false, false, false, false, false, false, false, false, false, false, false, false, false, false, false, false, false, false, false, false, false, false, false, false, false, false, false] rfl rfl (any_of HT_.out (by kernel_rfl)) (fun _ _ _ h => h) (Or.inl ⟨by rfl, ?_⟩) ?_ ?_
       rotate_left
       ·intro w'
        go_simp
        with_reducible rfl
       rotate_left
       ·simp only [Act.put, List.setIfInBounds_toArray, List.set_cons_zero, List.set_cons_succ, i64_w, i32_w]
        rfl
       refine pure_ (i := 8) (N := some 29) (v := ?_) (a' := ?_) #[true, true, true, true, true, true, true, true, true, false, false, false, false, false, false, false, false, false, false, false, false, false, false, false, false, false, false, false, false, false, false, false, false, false, false, false, false, false, false, false, false, false, false, false, false, false, false, false, false] rfl rfl (any_of HT_.out (by kernel_rfl)) (fun _ _ _ h => h) (Or.inl ⟨by rfl, ?_⟩) ?_ ?_
       rotate_left
       ·intro w'
        go_simp
        with_reducible rfl
       rotate_left
       ·simp only [Act.put, List.setIfInBounds_toArray, List.set_cons_zero, List.set_cons_succ, i64_w, i32_w]
        rfl
       refine pure_ (i := 9) (N := some 30) (v := ?_) (a' := ?_) #[true, true, true, true, true, true, true, true, true, true, false, false, false, false, false, false, false, false, false, false, false, false, false, false, false, false, false, false, false, false, false, false, false, false, false, false, false, false, false, false, false, false, false, false, false, false, false, false, false] rfl rfl (any_of HT_.out (by kernel_rfl)) (fun _ _ _ h => h) (Or.inl ⟨by rfl, ?_⟩) ?_ ?_
       rotate_left
       ·intro w'
        go_simp
        with_reducible rfl
       rotate_left
       ·simp only [Act.put, List.setIfInBounds_toArray, List.set_cons_zero, List.set_cons_succ, i64_w, i32_w]
        rfl
       refine one_ (i := 10) (N := some 31) #[true, true, true, true, true, true, true, true, true, true, true, false, false, false, false, false, false, false, false, false, false, false, false, false, false, false, false, false, false, false, false, false, false, false, false, false, false, false, false, false, false, false, false, false, false, false, false, false, false] rfl rfl (one_of HT_.out (by kernel_rfl)) (by decide) (fun K hK => ?_)
       refine goes_ Try.func26 (by kernel_rfl) rfl #[.slice Ao53 t493.length co53, .int .i64 a1, .int .i64 a2] (by rfl) rfl rfl (by (try simp only [List.map_toArray, List.map_cons, List.map_nil]); first | done | rfl | (simp only [List.length_drop, List.length_take]; rfl)) ?_
       with_reducible refine (mutoscopelaw5_same.calls k _ _ t493 a1 a2 true _ ?side1 ?side2 A39.out).mono ?_
       (case side1 => repeat (first | exact (Kd.R_reads' HO495.out).2.2 | (with_reducible refine Kd.C_alloc ?_ _) | (with_reducible refine Kd.C_drewN ?_ _) | (with_reducible refine Kd.C_drew ?_)))
       (case side2 => exact (Kd.R_reads' HO495.out).2.1)
       rintro e w55 ⟨rfl, hb⟩
       refine ⟨_, rfl, ?_⟩
       have n0_ := Aside0.mk (Kd.R_below (by (with_reducible repeat (first | apply Kd.R_alloc | apply Kd.R_drewN | apply Kd.R_drew)); exact HO495.out) hb)
       have n1_ := Aside0.mk (blk_below (g := gb477) (o := .cells #[.int .i64 a4_0, .int .i64 a4_1, .int .i64 a4_2, .int .i64 a4_3] 23 (0, 0)) (by (with_reducible repeat (first | refine blk_drewN ?_ _ | refine blk_drew ?_ | refine blk_alloc ?_ _)); exact BK477.out) hb)
       have n2_ := Aside0.mk (below_step (by repeat (first | (with_reducible first | exact HB.out | apply below_alloc | apply pw_below_drewN | apply below_drew1 | refine below_set ?_ GE477.out) | exact HB.out)) hb)
       clear HO495
       clear BK477
       clear HB
       have HO495 := n0_
       have BK477 := n1_
       have HB := n2_
       clear n0_ n1_ n2_
       (try clear hb)
       (try clear hb2)
       (try clear hk)
       (try clear hi)
       refine hK.out _ _ ⟨(blk_cell BK477.out 0).trans rfl, (blk_cell BK477.out 1).trans rfl, (blk_cell BK477.out 2).trans rfl, (blk_cell BK477.out 3).trans rfl⟩ (fun hHeld => ?_)
       clear hK K
       refine norm_ (a' := ?_) ?_ ?_
       rotate_left
       ·show Act.put _ (some 31) _ = _
        simp only [Act.put, List.setIfInBounds_toArray, List.set_cons_zero, List.set_cons_succ, i64_w, i32_w]
        rfl
       refine pure_ (i := 11) (N := some 32) (v := ?_) (a' := ?_) #[true, true, true, true, true, true, true, true, true, true, true, true, false, false, false, false, false, false, false, false, false, false, false, false, false, false, false, false, false, false, false, false, false, false, false, false, false, false, false, false, false, false, false, false, false, false, false, false, false] rfl rfl (any_of HT_.out (by kernel_rfl)) (fun _ _ _ h => h) (Or.inl ⟨by rfl, ?_⟩) ?_ ?_
       rotate_left
       ·intro w'
        go_simp
        with_reducible rfl
       rotate_left
       ·simp only [Act.put, List.setIfInBounds_toArray, List.set_cons_zero, List.set_cons_succ, i64_w, i32_w]
        rfl
       refine pure_ (i := 12) (N := some 33) (v := ?_) (a' := ?_) #[true, true, true, true, true, true, true, true, true, true, true, true, true, false, false, false, false, false, false, false, false, false, false, false, false, false, false, false, false, false, false, false, false, false, false, false, false, false, false, false, false, false, false, false, false, false, false, false, false] rfl rfl (any_of HT_.out (by kernel_rfl)) (fun _ _ _ h => h) (Or.inl ⟨by rfl, ?_⟩) ?_ ?_
       rotate_left
       ·intro w'
        go_simp
        with_reducible rfl
       rotate_left
       ·simp only [Act.put, List.setIfInBounds_toArray, List.set_cons_zero, List.set_cons_succ, i64_w, i32_w]
        rfl
       refine pure_ (i := 13) (N := some 34) (v := ?_) (a' := ?_) #[true, true, true, true, true, true, true, true, true, true, true, true, true, true, false, false, false, false, false, false, false, false, false, false, false, false, false, false, false, false, false, false, false, false, false, false, false, false, false, false, false, false, false, false, false, false, false, false, false] rfl rfl (any_of HT_.out (by kernel_rfl)) (fun _ _ _ h => h) (Or.inl ⟨by rfl, ?_⟩) ?_ ?_
       rotate_left
       ·intro w'
        go_simp
        with_reducible rfl
       rotate_left
       ·simp only [Act.put, List.setIfInBounds_toArray, List.set_cons_zero, List.set_cons_succ, i64_w, i32_w]
        rfl
       refine pure_ (i := 14) (N := some 35) (v := ?_) (a' := ?_) #[true, true, true, true, true, true, true, true, true, true, true, true, true, true, true, false, false, false, false, false, false, false, false, false, false, false, false, false, false, false, false, false, false, false, false, false, false, false, false, false, false, false, false, false, false, false, false, false, false] rfl rfl (any_of HT_.out (by kernel_rfl)) (fun _ _ _ h => h) (Or.inl ⟨by rfl, ?_⟩) ?_ ?_
       rotate_left
       ·intro w'
        go_simp
        with_reducible rfl
       rotate_left
       ·simp only [Act.put, List.setIfInBounds_toArray, List.set_cons_zero, List.set_cons_succ, i64_w, i32_w]
        rfl
       refine pure_ (i := 15) (N := some 36) (v := ?_) (a' := ?_) #[true, true, true, true, true, true, true, true, true, true, true, true, true, true, true, true, false, false, false, false, false, false, false, false, false, false, false, false, false, false, false, false, false, false, false, false, false, false, false, false, false, false, false, false, false, false, false, false, false] rfl rfl (any_of HT_.out (by kernel_rfl)) (fun _ _ _ h => h) (Or.inl ⟨by rfl, ?_⟩) ?_ ?_
       rotate_left
       ·intro w'
        go_simp
        with_reducible rfl
       rotate_left
       ·simp only [Act.put, List.setIfInBounds_toArray, List.set_cons_zero, List.set_cons_succ, i64_w, i32_w]
        rfl
       refine pure_ (i := 16) (N := some 37) (v := ?_) (a' := ?_) #[true, true, true, true, true, true, true, true, true, true, true, true, true, true, true, true, true, false, false, false, false, false, false, false, false, false, false, false, false, false, false, false, false, false, false, false, false, false, false, false, false, false, false, false, false, false, false, false, false] rfl rfl (any_of HT_.out (by kernel_rfl)) (fun _ _ _ h => h) (Or.inl ⟨by rfl, ?_⟩) ?_ ?_
       rotate_left
       ·intro w'
        go_simp
        with_reducible rfl
       rotate_left
       ·simp only [Act.put, List.setIfInBounds_toArray, List.set_cons_zero, List.set_cons_succ, i64_w, i32_w]
        rfl
       refine one_ (i := 17) (N := some 38) #[true, true, true, true, true, true, true, true, true, true, true, true, true, true, true, true, true, true, false, false, false, false, false, false, false, false, false, false, false, false, false, false, false, false, false, false, false, false, false, false, false, false, false, false, false, false, false, false, false] rfl rfl (one_of HT_.out (by kernel_rfl)) (by decide) (fun K hK => ?_)
       refine goes_ Try.func26 (by kernel_rfl) rfl #[.slice A0 l0.length c0, .int .i64 (Go.bits .and .i64 a1 7), .int .i64 a2] (by rfl) rfl rfl (by (try simp only [List.map_toArray, List.map_cons, List.map_nil]); first | done | rfl | (simp only [List.length_drop, List.length_take]; rfl)) ?_
       with_reducible refine (mutoscopelaw5_same.calls k _ _ l0 (Go.bits .and .i64 a1 7) a2 true _ ?side1 ?side2 A41.out).mono ?_
       (case side1 => repeat (first | exact (Kd.C_below HR0.out HB.out) | (with_reducible refine Kd.C_alloc ?_ _) | (with_reducible refine Kd.C_drewN ?_ _) | (with_reducible refine Kd.C_drew ?_)))
       (case side2 => exact HC0.out)
       rintro e w56 ⟨rfl, hb⟩
       refine ⟨_, rfl, ?_⟩
       have n0_ := Aside0.mk (Kd.R_below (by (with_reducible repeat (first | apply Kd.R_alloc | apply Kd.R_drewN | apply Kd.R_drew)); exact HO495.out) hb)
       have n1_ := Aside0.mk (blk_below (g := gb477) (o := .cells #[.int .i64 a4_0, .int .i64 a4_1, .int .i64 a4_2, .int .i64 a4_3] 23 (0, 0)) (by (with_reducible repeat (first | refine blk_drewN ?_ _ | refine blk_drew ?_ | refine blk_alloc ?_ _)); exact BK477.out) hb)
       have n2_ := Aside0.mk (below_step (by repeat (first | (with_reducible first | exact HB.out | apply below_alloc | apply pw_below_drewN | apply below_drew1 | refine below_set ?_ GE477.out) | exact HB.out)) hb)
       clear HO495
       clear BK477
       clear HB
       have HO495 := n0_
       have BK477 := n1_
       have HB := n2_
       clear n0_ n1_ n2_
       (try clear hb)
       (try clear hb2)
       (try clear hk)
       (try clear hi)
       refine hK.out _ _ ⟨(blk_cell BK477.out 0).trans rfl, (blk_cell BK477.out 1).trans rfl, (blk_cell BK477.out 2).trans rfl, (blk_cell BK477.out 3).trans rfl⟩ (fun hHeld => ?_)
       clear hK K
       refine norm_ (a' := ?_) ?_ ?_
       rotate_left
       ·show Act.put _ (some 38) _ = _
        simp only [Act.put, List.setIfInBounds_toArray, List.set_cons_zero, List.set_cons_succ, i64_w, i32_w]
        rfl
       refine pure_ (i := 18) (N := some 39) (v := ?_) (a' := ?_) #[true, true, true, true, true, true, true, true, true, true, true, true, true, true, true, true, true, true, true, false, false, false, false, false, false, false, false, false, false, false, false, false, false, false, false, false, false, false, false, false, false, false, false, false, false, false, false, false, false] rfl rfl (any_of HT_.out (by kernel_rfl)) (fun _ _ _ h => h) (Or.inl ⟨by rfl, ?_⟩) ?_ ?_
       rotate_left
       ·intro w'
        go_simp
        with_reducible rfl
       rotate_left
       ·simp only [Act.put, List.setIfInBounds_toArray, List.set_cons_zero, List.set_cons_succ, i64_w, i32_w]
        rfl
       refine pure_ (i := 19) (N := some 40) (v := ?_) (a' := ?_) #[true, true, true, true, true, true, true, true, true, true, true, true, true, true, true, true, true, true, true, true, false, false, false, false, false, false, false, false, false, false, false, false, false, false, false, false, false, false, false, false, false, false, false, false, false, false, false, false, false] rfl rfl (any_of HT_.out (by kernel_rfl)) (fun _ _ _ h => h) (Or.inl ⟨by rfl, ?_⟩) ?_ ?_
       rotate_left
       ·intro w'
        go_simp
        with_reducible rfl
       rotate_left
       ·simp only [Act.put, List.setIfInBounds_toArray, List.set_cons_zero, List.set_cons_succ, i64_w, i32_w]
        rfl
       refine pure_ (i := 20) (N := some 41) (v := ?_) (a' := ?_) #[true, true, true, true, true, true, true, true, true, true, true, true, true, true, true, true, true, true, true, true, true, false, false, false, false, false, false, false, false, false, false, false, false, false, false, false, false, false, false, false, false, false, false, false, false, false, false, false, false] rfl rfl (any_of HT_.out (by kernel_rfl)) (fun _ _ _ h => h) (Or.inl ⟨by rfl, ?_⟩) ?_ ?_
       rotate_left
       ·intro w'
        go_simp
        with_reducible rfl
       rotate_left
       ·simp only [Act.put, List.setIfInBounds_toArray, List.set_cons_zero, List.set_cons_succ, i64_w, i32_w]
        rfl
       refine pure_ (i := 22) (N := some 43) (v := ?_) (a' := ?_) #[true, true, true, true, true, true, true, true, true, true, true, true, true, true, true, true, true, true, true, true, true, false, true, false, false, false, false, false, false, false, false, false, false, false, false, false, false, false, false, false, false, false, false, false, false, false, false, false, false] rfl rfl (any_of HT_.out (by kernel_rfl)) (fun _ _ _ h => h) (Or.inl ⟨by rfl, ?_⟩) ?_ ?_
       rotate_left
       ·intro w'
        go_simp
        with_reducible rfl
       rotate_left
       ·simp only [Act.put, List.setIfInBounds_toArray, List.set_cons_zero, List.set_cons_succ, i64_w, i32_w]
        rfl
       refine pure_ (i := 24) (N := some 45) (v := ?_) (a' := ?_) #[true, true, true, true, true, true, true, true, true, true, true, true, true, true, true, true, true, true, true, true, true, false, true, false, true, false, false, false, false, false, false, false, false, false, false, false, false, false, false, false, false, false, false, false, false, false, false, false, false] rfl rfl (any_of HT_.out (by kernel_rfl)) (fun _ _ _ h => h) (Or.inl ⟨by rfl, ?_⟩) ?_ ?_
       rotate_left
       ·intro w'
        go_simp
        with_reducible rfl
       rotate_left
       ·simp only [Act.put, List.setIfInBounds_toArray, List.set_cons_zero, List.set_cons_succ, i64_w, i32_w]
        rfl
       refine pure_ (i := 26) (N := some 47) (v := ?_) (a' := ?_) #[true, true, true, true, true, true, true, true, true, true, true, true, true, true, true, true, true, true, true, true, true, false, true, false, true, false, true, false, false, false, false, false, false, false, false, false, false, false, false, false, false, false, false, false, false, false, false, false, false] rfl rfl (any_of HT_.out (by kernel_rfl)) (fun _ _ _ h => h) (Or.inl ⟨by rfl, ?_⟩) ?_ ?_
       rotate_left
       ·intro w'
        go_simp
        with_reducible rfl
       rotate_left
       ·simp only [Act.put, List.setIfInBounds_toArray, List.set_cons_zero, List.set_cons_succ, i64_w, i32_w]
        rfl
       refine take_ (i := 21) (N := some 42) (v := ?_) (a' := ?_) #[true, true, true, true, true, true, true, true, true, true, true, true, true, true, true, true, true, true, true, true, true, true, true, false, true, false, true, false, false, false, false, false, false, false, false, false, false, false, false, false, false, false, false, false, false, false, false, false, false] rfl rfl (take_ofW HT_.out HW_.out (by kernel_rfl)) (fun _ _ _ h => h) (Or.inl ⟨by rfl, ?_⟩) hHeld ?_ ?_
       rotate_left
       ·rintro w' ⟨s0, s1, s2, s3⟩
        go_simp
        with_reducible rfl
       rotate_left
       ·simp only [Act.put, List.setIfInBounds_toArray, List.set_cons_zero, List.set_cons_succ, i64_w, i32_w]
        rfl
       refine take_ (i := 25) (N := some 46) (v := ?_) (a' := ?_) #[true, true, true, true, true, true, true, true, true, true, true, true, true, true, true, true, true, true, true, true, true, true, true, false, true, true, true, false, false, false, false, false, false, false, false, false, false, false, false, false, false, false, false, false, false, false, false, false, false] rfl rfl (take_ofW HT_.out HW_.out (by kernel_rfl)) (fun _ _ _ h => h) (Or.inl ⟨by rfl, ?_⟩) hHeld ?_ ?_
       rotate_left
       ·rintro w' ⟨s0, s1, s2, s3⟩
        go_simp
        with_reducible rfl
       rotate_left
       ·simp only [Act.put, List.setIfInBounds_toArray, List.set_cons_zero, List.set_cons_succ, i64_w, i32_w]
        rfl
       refine one_ (i := 23) (N := some 44) #[true, true, true, true, true, true, true, true, true, true, true, true, true, true, true, true, true, true, true, true, true, true, true, true, true, true, true, false, false, false, false, false, false, false, false, false, false, false, false, false, false, false, false, false, false, false, false, false, false] rfl rfl (one_of HT_.out (by kernel_rfl)) (by decide) (fun K hK => ?_)
       refine goes_ Try.func27 (by kernel_rfl) rfl #[.int .i64 a3, .agg #[.int .i64 a4_0, .int .i64 a4_1, .int .i64 a4_2, .int .i64 a4_3], .int .i64 a5] (by rfl) rfl rfl (by (try simp only [List.map_toArray, List.map_cons, List.map_nil]); first | done | rfl | (simp only [List.length_drop, List.length_take]; rfl)) ?_
       with_reducible refine (key_Goes.calls k a3 a4_0 a4_1 a4_2 a4_3 a5 t499 _ A43.out).mono ?_
       rintro e w57 ⟨rfl, hb⟩
       refine ⟨_, rfl, ?_⟩
       have n0_ := Aside0.mk (Kd.R_below (by (with_reducible repeat (first | apply Kd.R_alloc | apply Kd.R_drewN | apply Kd.R_drew)); exact HO495.out) hb)
       have n1_ := Aside0.mk (blk_below (g := gb477) (o := .cells #[.int .i64 a4_0, .int .i64 a4_1, .int .i64 a4_2, .int .i64 a4_3] 23 (0, 0)) (by (with_reducible repeat (first | refine blk_drewN ?_ _ | refine blk_drew ?_ | refine blk_alloc ?_ _)); exact BK477.out) hb)
       have n2_ := Aside0.mk (below_step (by repeat (first | (with_reducible first | exact HB.out | apply below_alloc | apply pw_below_drewN | apply below_drew1 | refine below_set ?_ GE477.out) | exact HB.out)) hb)
       clear HO495
       clear BK477
       clear HB
       have HO495 := n0_
       have BK477 := n1_
       have HB := n2_
       clear n0_ n1_ n2_
       (try clear hb)
       (try clear hb2)
       (try clear hk)
       (try clear hi)
       refine hK.out _ _ ⟨(blk_cell BK477.out 0).trans rfl, (blk_cell BK477.out 1).trans rfl, (blk_cell BK477.out 2).trans rfl, (blk_cell BK477.out 3).trans rfl⟩ (fun hHeld => ?_)
       clear hK K
       refine norm_ (a' := ?_) ?_ ?_
       rotate_left
       ·show Act.put _ (some 44) _ = _
        simp only [Act.put, List.setIfInBounds_toArray, List.set_cons_zero, List.set_cons_succ, i64_w, i32_w]
        rfl
       refine one_ (i := 27) (N := some 48) #[true, true, true, true, true, true, true, true, true, true, true, true, true, true, true, true, true, true, true, true, true, true, true, true, true, true, true, true, false, false, false, false, false, false, false, false, false, false, false, false, false, false, false, false, false, false, false, false, false] rfl rfl (one_of HT_.out (by kernel_rfl)) (by decide) (fun K hK => ?_)
       refine goes_ Try.func28 (by kernel_rfl) rfl #[.int .i64 a3, .agg #[.int .i64 a4_0, .int .i64 a4_1, .int .i64 a4_2, .int .i64 a4_3], .int .i64 a5] (by rfl) rfl rfl (by (try simp only [List.map_toArray, List.map_cons, List.map_nil]); first | done | rfl | (simp only [List.length_drop, List.length_take]; rfl)) ?_
       with_reducible refine (mutoscoperef5_Goes.calls k a3 a4_0 a4_1 a4_2 a4_3 a5 t500 _ A44.out).mono ?_
       rintro e w58 ⟨rfl, hb⟩
       refine ⟨_, rfl, ?_⟩
       have n0_ := Aside0.mk (Kd.R_below (by (with_reducible repeat (first | apply Kd.R_alloc | apply Kd.R_drewN | apply Kd.R_drew)); exact HO495.out) hb)
       have n1_ := Aside0.mk (blk_below (g := gb477) (o := .cells #[.int .i64 a4_0, .int .i64 a4_1, .int .i64 a4_2, .int .i64 a4_3] 23 (0, 0)) (by (with_reducible repeat (first | refine blk_drewN ?_ _ | refine blk_drew ?_ | refine blk_alloc ?_ _)); exact BK477.out) hb)
       have n2_ := Aside0.mk (below_step (by repeat (first | (with_reducible first | exact HB.out | apply below_alloc | apply pw_below_drewN | apply below_drew1 | refine below_set ?_ GE477.out) | exact HB.out)) hb)
       clear HO495
       clear BK477
       clear HB
       have HO495 := n0_
       have BK477 := n1_
       have HB := n2_
       clear n0_ n1_ n2_
       (try clear hb)
       (try clear hb2)
       (try clear hk)
       (try clear hi)
       refine hK.out _ _ ⟨(blk_cell BK477.out 0).trans rfl, (blk_cell BK477.out 1).trans rfl, (blk_cell BK477.out 2).trans rfl, (blk_cell BK477.out 3).trans rfl⟩ (fun hHeld => ?_)
       clear hK K
       refine norm_ (a' := ?_) ?_ ?_
       rotate_left
       ·show Act.put _ (some 48) _ = _
        simp only [Act.put, List.setIfInBounds_toArray, List.set_cons_zero, List.set_cons_succ, i64_w, i32_w]
        rfl
       refine pure_ (i := 28) (N := some 49) (v := ?_) (a' := ?_) #[true, true, true, true, true, true, true, true, true, true, true, true, true, true, true, true, true, true, true, true, true, true, true, true, true, true, true, true, true, false, false, false, false, false, false, false, false, false, false, false, false, false, false, false, false, false, false, false, false] rfl rfl (any_of HT_.out (by kernel_rfl)) (fun _ _ _ h => h) (Or.inl ⟨by rfl, ?_⟩) ?_ ?_
       rotate_left
       ·intro w'
        go_simp
        with_reducible rfl
       rotate_left
       ·simp only [Act.put, List.setIfInBounds_toArray, List.set_cons_zero, List.set_cons_succ, i64_w, i32_w]
        rfl
       refine pure_ (i := 29) (N := some 50) (v := ?_) (a' := ?_) #[true, true, true, true, true, true, true, true, true, true, true, true, true, true, true, true, true, true, true, true, true, true, true, true, true, true, true, true, true, true, false, false, false, false, false, false, false, false, false, false, false, false, false, false, false, false, false, false, false] rfl rfl (any_of HT_.out (by kernel_rfl)) (fun _ _ _ h => h) (Or.inl ⟨by rfl, ?_⟩) ?_ ?_
       rotate_left
       ·intro w'
        go_simp
        with_reducible rfl
       rotate_left
       ·simp only [Act.put, List.setIfInBounds_toArray, List.set_cons_zero, List.set_cons_succ, i64_w, i32_w]
        rfl
       refine pure_ (i := 30) (N := some 51) (v := ?_) (a' := ?_) #[true, true, true, true, true, true, true, true, true, true, true, true, true, true, true, true, true, true, true, true, true, true, true, true, true, true, true, true, true, true, true, false, false, false, false, false, false, false, false, false, false, false, false, false, false, false, false, false, false] rfl rfl (any_of HT_.out (by kernel_rfl)) (fun _ _ _ h => h) (Or.inl ⟨by rfl, ?_⟩) ?_ ?_
       rotate_left
       ·intro w'
        go_simp
        with_reducible rfl
       rotate_left
       ·simp only [Act.put, List.setIfInBounds_toArray, List.set_cons_zero, List.set_cons_succ, i64_w, i32_w]
        rfl
       refine pure_ (i := 31) (N := some 52) (v := ?_) (a' := ?_) #[true, true, true, true, true, true, true, true, true, true, true, true, true, true, true, true, true, true, true, true, true, true, true, true, true, true, true, true, true, true, true, true, false, false, false, false, false, false, false, false, false, false, false, false, false, false, false, false, false] rfl rfl (any_of HT_.out (by kernel_rfl)) (fun _ _ _ h => h) (Or.inl ⟨by rfl, ?_⟩) ?_ ?_
       rotate_left
       ·intro w'
        go_simp
        with_reducible rfl
       rotate_left
       ·simp only [Act.put, List.setIfInBounds_toArray, List.set_cons_zero, List.set_cons_succ, i64_w, i32_w]
        rfl
       refine pure_ (i := 32) (N := some 53) (v := ?_) (a' := ?_) #[true, true, true, true, true, true, true, true, true, true, true, true, true, true, true, true, true, true, true, true, true, true, true, true, true, true, true, true, true, true, true, true, true, false, false, false, false, false, false, false, false, false, false, false, false, false, false, false, false] rfl rfl (any_of HT_.out (by kernel_rfl)) (fun _ _ _ h => h) (Or.inl ⟨by rfl, ?_⟩) ?_ ?_
       rotate_left
       ·intro w'
        go_simp
        with_reducible rfl
       rotate_left
       ·simp only [Act.put, List.setIfInBounds_toArray, List.set_cons_zero, List.set_cons_succ, i64_w, i32_w]
        rfl
       refine pure_ (i := 34) (N := some 55) (v := ?_) (a' := ?_) #[true, true, true, true, true, true, true, true, true, true, true, true, true, true, true, true, true, true, true, true, true, true, true, true, true, true, true, true, true, true, true, true, true, false, true, false, false, false, false, false, false, false, false, false, false, false, false, false, false] rfl rfl (any_of HT_.out (by kernel_rfl)) (fun _ _ _ h => h) (Or.inl ⟨by rfl, ?_⟩) ?_ ?_
       rotate_left
       ·intro w'
        go_simp
        with_reducible rfl
       rotate_left
       ·simp only [Act.put, List.setIfInBounds_toArray, List.set_cons_zero, List.set_cons_succ, i64_w, i32_w]
        rfl
       refine pure_ (i := 35) (N := some 56) (v := ?_) (a' := ?_) #[true, true, true, true, true, true, true, true, true, true, true, true, true, true, true, true, true, true, true, true, true, true, true, true, true, true, true, true, true, true, true, true, true, false, true, true, false, false, false, false, false, false, false, false, false, false, false, false, false] rfl rfl (any_of HT_.out (by kernel_rfl)) (fun _ _ _ h => h) (Or.inl ⟨by rfl, ?_⟩) ?_ ?_
       rotate_left
       ·intro w'
        go_simp
        with_reducible rfl
       rotate_left
       ·simp only [Act.put, List.setIfInBounds_toArray, List.set_cons_zero, List.set_cons_succ, i64_w, i32_w]
        rfl
       refine pure_ (i := 37) (N := some 58) (v := ?_) (a' := ?_) #[true, true, true, true, true, true, true, true, true, true, true, true, true, true, true, true, true, true, true, true, true, true, true, true, true, true, true, true, true, true, true, true, true, false, true, true, false, true, false, false, false, false, false, false, false, false, false, false, false] rfl rfl (any_of HT_.out (by kernel_rfl)) (fun _ _ _ h => h) (Or.inl ⟨by rfl, ?_⟩) ?_ ?_
       rotate_left
       ·intro w'
        go_simp
        with_reducible rfl
       rotate_left
       ·simp only [Act.put, List.setIfInBounds_toArray, List.set_cons_zero, List.set_cons_succ, i64_w, i32_w]
        rfl
       refine pure_ (i := 38) (N := some 59) (v := ?_) (a' := ?_) #[true, true, true, true, true, true, true, true, true, true, true, true, true, true, true, true, true, true, true, true, true, true, true, true, true, true, true, true, true, true, true, true, true, false, true, true, false, true, true, false, false, false, false, false, false, false, false, false, false] rfl rfl (any_of HT_.out (by kernel_rfl)) (fun _ _ _ h => h) (Or.inl ⟨by rfl, ?_⟩) ?_ ?_
       rotate_left
       ·intro w'
        go_simp
        with_reducible rfl
       rotate_left
       ·simp only [Act.put, List.setIfInBounds_toArray, List.set_cons_zero, List.set_cons_succ, i64_w, i32_w]
        rfl
       refine pure_ (i := 40) (N := some 61) (v := ?_) (a' := ?_) #[true, true, true, true, true, true, true, true, true, true, true, true, true, true, true, true, true, true, true, true, true, true, true, true, true, true, true, true, true, true, true, true, true, false, true, true, false, true, true, false, true, false, false, false, false, false, false, false, false] rfl rfl (any_of HT_.out (by kernel_rfl)) (fun _ _ _ h => h) (Or.inl ⟨by rfl, ?_⟩) ?_ ?_
       rotate_left
       ·intro w'
        go_simp
        with_reducible rfl
       rotate_left
       ·simp only [Act.put, List.setIfInBounds_toArray, List.set_cons_zero, List.set_cons_succ, i64_w, i32_w]
        rfl
       refine pure_ (i := 41) (N := some 62) (v := ?_) (a' := ?_) #[true, true, true, true, true, true, true, true, true, true, true, true, true, true, true, true, true, true, true, true, true, true, true, true, true, true, true, true, true, true, true, true, true, false, true, true, false, true, true, false, true, true, false, false, false, false, false, false, false] rfl rfl (any_of HT_.out (by kernel_rfl)) (fun _ _ _ h => h) (Or.inl ⟨by rfl, ?_⟩) ?_ ?_
       rotate_left
       ·intro w'
        go_simp
        with_reducible rfl
       rotate_left
       ·simp only [Act.put, List.setIfInBounds_toArray, List.set_cons_zero, List.set_cons_succ, i64_w, i32_w]
        rfl
       refine take_ (i := 33) (N := some 54) (v := ?_) (a' := ?_) #[true, true, true, true, true, true, true, true, true, true, true, true, true, true, true, true, true, true, true, true, true, true, true, true, true, true, true, true, true, true, true, true, true, true, true, true, false, true, true, false, true, true, false, false, false, false, false, false, false] rfl rfl (take_ofW HT_.out HW_.out (by kernel_rfl)) (fun _ _ _ h => h) (Or.inl ⟨by rfl, ?_⟩) hHeld ?_ ?_
       rotate_left
       ·rintro w' ⟨s0, s1, s2, s3⟩
        go_simp
        with_reducible rfl
       rotate_left
       ·simp only [Act.put, List.setIfInBounds_toArray, List.set_cons_zero, List.set_cons_succ, i64_w, i32_w]
        rfl
       refine take_ (i := 39) (N := some 60) (v := ?_) (a' := ?_) #[true, true, true, true, true, true, true, true, true, true, true, true, true, true, true, true, true, true, true, true, true, true, true, true, true, true, true, true, true, true, true, true, true, true, true, true, false, true, true, true, true, true, false, false, false, false, false, false, false] rfl rfl (take_ofW HT_.out HW_.out (by kernel_rfl)) (fun _ _ _ h => h) (Or.inl ⟨by rfl, ?_⟩) hHeld ?_ ?_
       rotate_left
       ·rintro w' ⟨s0, s1, s2, s3⟩
        go_simp
        with_reducible rfl
       rotate_left
       ·simp only [Act.put, List.setIfInBounds_toArray, List.set_cons_zero, List.set_cons_succ, i64_w, i32_w]
        rfl
       refine one_ (i := 36) (N := some 57) #[true, true, true, true, true, true, true, true, true, true, true, true, true, true, true, true, true, true, true, true, true, true, true, true, true, true, true, true, true, true, true, true, true, true, true, true, true, true, true, true, true, true, false, false, false, false, false, false, false] rfl rfl (one_of HT_.out (by kernel_rfl)) (by decide) (fun K hK => ?_)
       refine goes_ Try.func27 (by kernel_rfl) rfl #[.int .i64 (Go.bits .and .i64 a3 3), .agg #[.int .i64 a4_0, .int .i64 a4_1, .int .i64 a4_2, .int .i64 a4_3], .int .i64 (Go.bits .and .i64 a5 65535)] (by rfl) rfl rfl (by (try simp only [List.map_toArray, List.map_cons, List.map_nil]); first | done | rfl | (simp only [List.length_drop, List.length_take]; rfl)) ?_
       with_reducible refine (key_Goes.calls k (Go.bits .and .i64 a3 3) a4_0 a4_1 a4_2 a4_3 (Go.bits .and .i64 a5 65535) t501 _ A46.out).mono ?_
       rintro e w59 ⟨rfl, hb⟩
       refine ⟨_, rfl, ?_⟩
       have n0_ := Aside0.mk (Kd.R_below (by (with_reducible repeat (first | apply Kd.R_alloc | apply Kd.R_drewN | apply Kd.R_drew)); exact HO495.out) hb)
       have n1_ := Aside0.mk (blk_below (g := gb477) (o := .cells #[.int .i64 a4_0, .int .i64 a4_1, .int .i64 a4_2, .int .i64 a4_3] 23 (0, 0)) (by (with_reducible repeat (first | refine blk_drewN ?_ _ | refine blk_drew ?_ | refine blk_alloc ?_ _)); exact BK477.out) hb)
       have n2_ := Aside0.mk (below_step (by repeat (first | (with_reducible first | exact HB.out | apply below_alloc | apply pw_below_drewN | apply below_drew1 | refine below_set ?_ GE477.out) | exact HB.out)) hb)
       clear HO495
       clear BK477
       clear HB
       have HO495 := n0_
       have BK477 := n1_
       have HB := n2_
       clear n0_ n1_ n2_
       (try clear hb)
       (try clear hb2)
       (try clear hk)
       (try clear hi)
       refine hK.out _ _ ⟨(blk_cell BK477.out 0).trans rfl, (blk_cell BK477.out 1).trans rfl, (blk_cell BK477.out 2).trans rfl, (blk_cell BK477.out 3).trans rfl⟩ (fun hHeld => ?_)
       clear hK K
       refine norm_ (a' := ?_) ?_ ?_
       rotate_left
       ·show Act.put _ (some 57) _ = _
        simp only [Act.put, List.setIfInBounds_toArray, List.set_cons_zero, List.set_cons_succ, i64_w, i32_w]
        rfl
       refine one_ (i := 42) (N := some 63) #[true, true, true, true, true, true, true, true, true, true, true, true, true, true, true, true, true, true, true, true, true, true, true, true, true, true, true, true, true, true, true, true, true, true, true, true, true, true, true, true, true, true, true, false, false, false, false, false, false] rfl rfl (one_of HT_.out (by kernel_rfl)) (by decide) (fun K hK => ?_)
       refine goes_ Try.func28 (by kernel_rfl) rfl #[.int .i64 (Go.bits .and .i64 a3 3), .agg #[.int .i64 a4_0, .int .i64 a4_1, .int .i64 a4_2, .int .i64 a4_3], .int .i64 (Go.bits .and .i64 a5 65535)] (by rfl) rfl rfl (by (try simp only [List.map_toArray, List.map_cons, List.map_nil]); first | done | rfl | (simp only [List.length_drop, List.length_take]; rfl)) ?_
       with_reducible refine (mutoscoperef5_Goes.calls k (Go.bits .and .i64 a3 3) a4_0 a4_1 a4_2 a4_3 (Go.bits .and .i64 a5 65535) t502 _ A47.out).mono ?_
       rintro e w60 ⟨rfl, hb⟩
       refine ⟨_, rfl, ?_⟩
       have n0_ := Aside0.mk (Kd.R_below (by (with_reducible repeat (first | apply Kd.R_alloc | apply Kd.R_drewN | apply Kd.R_drew)); exact HO495.out) hb)
       have n1_ := Aside0.mk (blk_below (g := gb477) (o := .cells #[.int .i64 a4_0, .int .i64 a4_1, .int .i64 a4_2, .int .i64 a4_3] 23 (0, 0)) (by (with_reducible repeat (first | refine blk_drewN ?_ _ | refine blk_drew ?_ | refine blk_alloc ?_ _)); exact BK477.out) hb)
       have n2_ := Aside0.mk (below_step (by repeat (first | (with_reducible first | exact HB.out | apply below_alloc | apply pw_below_drewN | apply below_drew1 | refine below_set ?_ GE477.out) | exact HB.out)) hb)
       clear HO495
       clear BK477
       clear HB
       have HO495 := n0_
       have BK477 := n1_
       have HB := n2_
       clear n0_ n1_ n2_
       (try clear hb)
       (try clear hb2)
       (try clear hk)
       (try clear hi)
       refine hK.out _ _ ⟨(blk_cell BK477.out 0).trans rfl, (blk_cell BK477.out 1).trans rfl, (blk_cell BK477.out 2).trans rfl, (blk_cell BK477.out 3).trans rfl⟩ (fun hHeld => ?_)
       clear hK K
       refine norm_ (a' := ?_) ?_ ?_
       rotate_left
       ·show Act.put _ (some 63) _ = _
        simp only [Act.put, List.setIfInBounds_toArray, List.set_cons_zero, List.set_cons_succ, i64_w, i32_w]
        rfl
       refine pure_ (i := 43) (N := some 64) (v := ?_) (a' := ?_) #[true, true, true, true, true, true, true, true, true, true, true, true, true, true, true, true, true, true, true, true, true, true, true, true, true, true, true, true, true, true, true, true, true, true, true, true, true, true, true, true, true, true, true, true, false, false, false, false, false] rfl rfl (any_of HT_.out (by kernel_rfl)) (fun _ _ _ h => h) (Or.inl ⟨by rfl, ?_⟩) ?_ ?_
       rotate_left
       ·intro w'
        go_simp
        with_reducible rfl
       rotate_left
       ·simp only [Act.put, List.setIfInBounds_toArray, List.set_cons_zero, List.set_cons_succ, i64_w, i32_w]
        rfl
       refine pure_ (i := 44) (N := some 65) (v := ?_) (a' := ?_) #[true, true, true, true, true, true, true, true, true, true, true, true, true, true, true, true, true, true, true, true, true, true, true, true, true, true, true, true, true, true, true, true, true, true, true, true, true, true, true, true, true, true, true, true, true, false, false, false, false] rfl rfl (any_of HT_.out (by kernel_rfl)) (fun _ _ _ h => h) (Or.inl ⟨by rfl, ?_⟩) ?_ ?_
       rotate_left
       ·intro w'
        go_simp
        with_reducible rfl
       rotate_left
       ·simp only [Act.put, List.setIfInBounds_toArray, List.set_cons_zero, List.set_cons_succ, i64_w, i32_w]
        rfl
       refine pure_ (i := 45) (N := some 66) (v := ?_) (a' := ?_) #[true, true, true, true, true, true, true, true, true, true, true, true, true, true, true, true, true, true, true, true, true, true, true, true, true, true, true, true, true, true, true, true, true, true, true, true, true, true, true, true, true, true, true, true, true, true, false, false, false] rfl rfl (any_of HT_.out (by kernel_rfl)) (fun _ _ _ h => h) (Or.inl ⟨by rfl, ?_⟩) ?_ ?_
       rotate_left
       ·intro w'
        go_simp
        with_reducible rfl
       rotate_left
       ·simp only [Act.put, List.setIfInBounds_toArray, List.set_cons_zero, List.set_cons_succ, i64_w, i32_w]
        rfl
       refine one_ (i := 46) (N := some 67) #[true, true, true, true, true, true, true, true, true, true, true, true, true, true, true, true, true, true, true, true, true, true, true, true, true, true, true, true, true, true, true, true, true, true, true, true, true, true, true, true, true, true, true, true, true, true, true, false, false] rfl rfl (one_of HT_.out (by kernel_rfl)) (by decide) (fun K hK => ?_)
       refine goes_ Try.func20 (by kernel_rfl) rfl #[] (by rfl) rfl rfl (by (try simp only [List.map_toArray, List.map_cons, List.map_nil]); first | done | rfl | (simp only [List.length_drop, List.length_take]; rfl)) ?_
       with_reducible refine (mutoscopelaw5_known.calls k  t503 _ A49.out).mono ?_
       rintro e w61 ⟨rfl, hb⟩
       refine ⟨_, rfl, ?_⟩
       have n0_ := Aside0.mk (Kd.R_below (by (with_reducible repeat (first | apply Kd.R_alloc | apply Kd.R_drewN | apply Kd.R_drew)); exact HO495.out) hb)
       have n1_ := Aside0.mk (blk_below (g := gb477) (o := .cells #[.int .i64 a4_0, .int .i64 a4_1, .int .i64 a4_2, .int .i64 a4_3] 23 (0, 0)) (by (with_reducible repeat (first | refine blk_drewN ?_ _ | refine blk_drew ?_ | refine blk_alloc ?_ _)); exact BK477.out) hb)
       have n2_ := Aside0.mk (below_step (by repeat (first | (with_reducible first | exact HB.out | apply below_alloc | apply pw_below_drewN | apply below_drew1 | refine below_set ?_ GE477.out) | exact HB.out)) hb)
       clear HO495
       clear BK477
       clear HB
       have HO495 := n0_
       have BK477 := n1_
       have HB := n2_
       clear n0_ n1_ n2_
       (try clear hb)
       (try clear hb2)
       (try clear hk)
       (try clear hi)
       refine hK.out _ _ ⟨(blk_cell BK477.out 0).trans rfl, (blk_cell BK477.out 1).trans rfl, (blk_cell BK477.out 2).trans rfl, (blk_cell BK477.out 3).trans rfl⟩ (fun hHeld => ?_)
       clear hK K
       refine norm_ (a' := ?_) ?_ ?_
       rotate_left
       ·show Act.put _ (some 67) _ = _
        simp only [Act.put, List.setIfInBounds_toArray, List.set_cons_zero, List.set_cons_succ, i64_w, i32_w]
        rfl
       refine pure_ (i := 47) (N := some 68) (v := ?_) (a' := ?_) #[true, true, true, true, true, true, true, true, true, true, true, true, true, true, true, true, true, true, true, true, true, true, true, true, true, true, true, true, true, true, true, true, true, true, true, true, true, true, true, true, true, true, true, true, true, true, true, true, false] rfl rfl (any_of HT_.out (by kernel_rfl)) (fun _ _ _ h => h) (Or.inl ⟨by rfl, ?_⟩) ?_ ?_
       rotate_left
       ·intro w'
        go_simp
        with_reducible rfl
       rotate_left
       ·simp only [Act.put, List.setIfInBounds_toArray, List.set_cons_zero, List.set_cons_succ, i64_w, i32_w]
        rfl
       refine pure_ (i := 48) (N := some 12) (v := ?_) (a' := ?_) #[true, true, true, true, true, true, true, true, true, true, true, true, true, true, true, true, true, true, true, true, true, true, true, true, true, true, true, true, true, true, true, true, true, true, true, true, true, true, true, true, true, true, true, true, true, true, true, true, true] rfl rfl (any_of HT_.out (by kernel_rfl)) (fun _ _ _ h => h) (Or.inl ⟨by rfl, ?_⟩) ?_ ?_
       rotate_left
       ·intro w'
        go_simp
        with_reducible rfl
       rotate_left
       ·simp only [Act.put, List.setIfInBounds_toArray, List.set_cons_zero, List.set_cons_succ, i64_w, i32_w]
        rfl
       refine done_ (done_of HT_.out (by kernel_rfl)) ?_
       try go_wp2
       go_ret
       exact ⟨by first | rfl | (simp [errW_none, errW_some] <;> rfl) | (simp [*, errW_none, errW_some] <;> rfl), by repeat (first | (with_reducible first | exact HB.out | apply below_alloc | apply pw_below_drewN | apply below_drew1 | refine below_set ?_ GE477.out) | exact HB.out)⟩
      ·rw [if_neg c48] at H
       have c48b0 : (t501 == t502) = false := beq_eq_false_iff_ne.mpr c48
       have c48b1 : (t501 != t502) = true := bne_iff_ne.mpr c48
       exact absurd H (by simp)
     ·rw [if_neg c45] at H
      have c45b0 : (t499 == t500) = false := beq_eq_false_iff_ne.mpr c45
      have c45b1 : (t499 != t500) = true := bne_iff_ne.mpr c45
      exact absurd H (by simp)
    ·replace c42 := Bool.eq_false_iff.mpr c42
     subst c42
     have H1 : (none) = some r := by rw [if_neg (show ¬ (false = true) by decide)] at H; exact H
     clear H
     have H := H1
     clear H1
     exact absurd H (by simp)
   ·replace c40 := Bool.eq_false_iff.mpr c40
    subst c40
    have H1 : (none) = some r := by rw [if_neg (show ¬ (false = true) by decide)] at H; exact H
    clear H
    have H := H1
    clear H1
    exact absurd H (by simp)
  ·replace c38 := Bool.eq_false_iff.mpr c38
   subst c38
   have H1 : (none) = some r := by rw [if_neg (show ¬ (false = true) by decide)] at H; exact H
   clear H
   have H := H1
   clear H1
   exact absurd H (by simp)
def mutoscopelaw5_KeyTells.Pure : Prop := ∀ (l0 : List (S34)) (a1 : Int) (a2 : Int) (a3 : Int) (a4_0 : Int) (a4_1 : Int) (a4_2 : Int) (a4_3 : Int) (a5 : Int), (l0.length ≤ maxLen ∧ ∀ y_, y_ ∈ l0 → ((Lit.int .i64 y_.f0).wf = true) ∧ ((Lit.int .i64 y_.f1).wf = true) ∧ ((Lit.int .i64 y_.f2).wf = true) ∧ (((Lit.int .i64 y_.f3.f0).wf = true) ∧ ((Lit.int .i64 y_.f3.f1).wf = true) ∧ ((Lit.int .i64 y_.f3.f2).wf = true) ∧ ((Lit.int .i64 y_.f3.f3).wf = true))) → ((Lit.int .i64 a1).wf = true) → ((Lit.int .i64 a2).wf = true) → ((Lit.int .i64 a3).wf = true) → (((Lit.int .i64 ((⟨a4_0, a4_1, a4_2, a4_3⟩ : S23).f0)).wf = true) ∧ ((Lit.int .i64 ((⟨a4_0, a4_1, a4_2, a4_3⟩ : S23).f1)).wf = true) ∧ ((Lit.int .i64 ((⟨a4_0, a4_1, a4_2, a4_3⟩ : S23).f2)).wf = true) ∧ ((Lit.int .i64 ((⟨a4_0, a4_1, a4_2, a4_3⟩ : S23).f3)).wf = true)) → ((Lit.int .i64 a5).wf = true) → ∃ k, mutoscopelaw5_KeyTells.f k l0 a1 a2 a3 a4_0 a4_1 a4_2 a4_3 a5 = some true
end Go.Proofs.Ytejnbjclcdmopaa.PA
end

section
set_option linter.unusedVariables false
namespace Go.Proofs.Ytejnbjclcdmopaa.MB
open Go.RowKit
theorem w64 {x : Int} (h : -9223372036854775808 ≤ x) (h' : x ≤ 9223372036854775807) : wrap64 x = x := by unfold wrap64; omega
theorem u64w (x : Int) : IntKind.u64.wrap x = x % 18446744073709551616 := by simp [IntKind.wrap, IntKind.bits, IntKind.signed]
theorem u64id {x : Int} (h : 0 ≤ x) (h' : x < 18446744073709551616) : IntKind.u64.wrap x = x := by rw [u64w]; omega
theorem and_low (k : IntKind) (j : Nat) (hj : j < k.bits) (hk : ∀ n : Int, 0 ≤ n → n < 2 ^ j → k.wrap n = n) (a : Int) :
    bits .and k a (2 ^ j - 1) = a % 2 ^ j := by
  have hpos : 0 < 2 ^ j := Nat.two_pow_pos j
  have hc : ((2 : Int) ^ j - 1) = ((2 ^ j - 1 : Nat) : Int) := by
    rw [Int.natCast_sub hpos]; simp
  have hp : 2 ^ j ≤ 2 ^ k.bits := Nat.pow_le_pow_right (by decide) (Nat.le_of_lt hj)
  have hm : (2 ^ j - 1) % 2 ^ k.bits = 2 ^ j - 1 := Nat.mod_eq_of_lt (by omega)
  rw [hc]
  simp only [bits, BitVec.ofInt_natCast, BitVec.toNat_and, BitVec.toNat_ofNat, hm, BitVec.toNat_ofInt]
  rw [Nat.and_two_pow_sub_one_eq_mod]
  have hn : 0 ≤ a % (2 ^ k.bits : Int) := Int.emod_nonneg _ (by have := Int.pow_pos (n := 2) (m := k.bits) (by decide); omega)
  have hd : ((2 : Int) ^ j) ∣ 2 ^ k.bits := ⟨2 ^ (k.bits - j), by rw [← Int.pow_add]; congr 1; omega⟩
  have he : ((((a % ((2 ^ k.bits : Nat) : Int)).toNat % 2 ^ j : Nat)) : Int) = a % 2 ^ j := by
    rw [Int.natCast_emod, Int.toNat_of_nonneg (by rw [Int.natCast_pow]; exact hn)]
    rw [Int.natCast_pow, Int.natCast_pow]
    exact Int.emod_emod_of_dvd a hd
  have hlo := Int.emod_nonneg a (b := (2 : Int) ^ j) (by have := Int.pow_pos (n := 2) (m := j) (by decide); omega)
  have hhi := Int.emod_lt_of_pos a (b := (2 : Int) ^ j) (Int.pow_pos (by decide))
  rw [hk _ (Int.natCast_nonneg _) (by rw [he]; exact hhi), he]
theorem and32u (a : Int) : bits .and .u64 a 4294967295 = a % 4294967296 := and_low .u64 32 (by decide) (fun n h h' => by rw [u64w]; omega) a
theorem mul64_parts (x y x1 x0 y1 y0 : Int) (hx : x = x1 * 4294967296 + x0) (hy : y = y1 * 4294967296 + y0) (h1 : 0 ≤ x1 ∧ x1 < 4294967296) (h2 : 0 ≤ x0 ∧ x0 < 4294967296) (h3 : 0 ≤ y1 ∧ y1 < 4294967296) (h4 : 0 ≤ y0 ∧ y0 < 4294967296) :
    IntKind.u64.wrap ((IntKind.u64.wrap ((IntKind.u64.wrap (x1 * y1)) + ((IntKind.u64.wrap ((IntKind.u64.wrap (x1 * y0)) + ((IntKind.u64.wrap (x0 * y0)) / 4294967296))) / 4294967296))) + ((IntKind.u64.wrap (((IntKind.u64.wrap ((IntKind.u64.wrap (x1 * y0)) + ((IntKind.u64.wrap (x0 * y0)) / 4294967296))) % 4294967296) + (IntKind.u64.wrap (x0 * y1)))) / 4294967296)) = x * y / 18446744073709551616 := by
  have bd : ∀ p q : Int, 0 ≤ p ∧ p < 4294967296 → 0 ≤ q ∧ q < 4294967296 → 0 ≤ p * q ∧ p * q ≤ 18446744065119617025 := fun p q ⟨a, b⟩ ⟨c, d⟩ =>
    ⟨Int.mul_nonneg a c, Int.le_trans (Int.mul_le_mul_of_nonneg_left (show q ≤ 4294967295 by omega) a) (by omega)⟩
  obtain ⟨a1, b1⟩ := bd x1 y1 h1 h3
  obtain ⟨a2, b2⟩ := bd x1 y0 h1 h4
  obtain ⟨a3, b3⟩ := bd x0 y1 h2 h3
  obtain ⟨a4, b4⟩ := bd x0 y0 h2 h4
  have e : x * y = x1 * y1 * 18446744073709551616 + (x1 * y0 + x0 * y1) * 4294967296 + x0 * y0 := by
    subst hx hy
    grind
  generalize x1 * y1 = p11 at *
  generalize x1 * y0 = p10 at *
  generalize x0 * y1 = p01 at *
  generalize x0 * y0 = p00 at *
  simp only [u64w]
  rw [e]
  omega
def cl (a lo hi : Int) : Int := if a < lo then lo else if a > hi then hi else a
def hd (a : Int) : Int := cl a (-1099511627776) 1099511627776
def mul (a b : Int) : Int := hd (hd a * hd b / 65536)
def add (a b : Int) : Int := hd (hd a + hd b)
theorem hd_bd (a : Int) : -1099511627776 ≤ hd a ∧ hd a ≤ 1099511627776 := by unfold hd cl; split <;> (try split) <;> omega
theorem hd_of {a : Int} (h : -1099511627776 ≤ a) (h' : a ≤ 1099511627776) : hd a = a := by unfold hd cl; rw [if_neg (by omega), if_neg (by omega)]
theorem hd_hi {a : Int} (h : 1099511627776 ≤ a) : hd a = 1099511627776 := by unfold hd cl; rw [if_neg (by omega)]; split <;> omega
theorem hd_lo {a : Int} (h : a ≤ -1099511627776) : hd a = -1099511627776 := by unfold hd cl; split <;> (try split) <;> omega
theorem cl_bd (a lo hi : Int) (h : lo ≤ hi) : lo ≤ cl a lo hi ∧ cl a lo hi ≤ hi := by unfold cl; split <;> (try split) <;> omega
theorem mul_bd (a b : Int) : -1099511627776 ≤ mul a b ∧ mul a b ≤ 1099511627776 := hd_bd _
theorem prod_bd (a b : Int) (ha : -1099511627776 ≤ a ∧ a ≤ 1099511627776) (hb : -1099511627776 ≤ b ∧ b ≤ 1099511627776) : -1208925819614629174706176 ≤ a * b ∧ a * b ≤ 1208925819614629174706176 := by
  obtain ⟨a1, a2⟩ := ha
  obtain ⟨b1, b2⟩ := hb
  have h1 : 0 ≤ (1099511627776 - a) * (1099511627776 + b) := Int.mul_nonneg (by omega) (by omega)
  have h2 : 0 ≤ (1099511627776 + a) * (1099511627776 - b) := Int.mul_nonneg (by omega) (by omega)
  have h3 : 0 ≤ (1099511627776 - a) * (1099511627776 - b) := Int.mul_nonneg (by omega) (by omega)
  have h4 : 0 ≤ (1099511627776 + a) * (1099511627776 + b) := Int.mul_nonneg (by omega) (by omega)
  simp only [Int.add_mul, Int.sub_mul, Int.mul_add, Int.mul_sub] at h1 h2 h3 h4
  omega
def Evt (p : Nat → Prop) : Prop := ∃ n, ∀ k, n ≤ k → p k
theorem Evt.all {p : Nat → Prop} (h : ∀ k, p k) : Evt p := ⟨0, fun k _ => h k⟩
theorem Evt.mono {p q : Nat → Prop} (h : Evt p) (hq : ∀ k, p k → q k) : Evt q := h.elim fun n hn => ⟨n, fun k hk => hq k (hn k hk)⟩
theorem Evt.and {p q : Nat → Prop} (h : Evt p) (hq : Evt q) : Evt fun k => p k ∧ q k := by
  obtain ⟨n, hn⟩ := h
  obtain ⟨m, hm⟩ := hq
  exact ⟨max n m, fun k hk => ⟨hn k (by omega), hm k (by omega)⟩⟩
theorem Evt.succ {p q : Nat → Prop} (h : Evt p) (hq : ∀ k, p k → q (k + 1)) : Evt q := by
  obtain ⟨n, hn⟩ := h
  refine ⟨n + 1, fun k hk => ?_⟩
  obtain ⟨m, rfl⟩ : ∃ m, k = m + 1 := ⟨k - 1, by omega⟩
  exact hq m (hn m (by omega))
end Go.Proofs.Ytejnbjclcdmopaa.MB
end

section
set_option linter.unusedVariables false
namespace Go.Proofs.Ytejnbjclcdmopaa.PA
open Go.RowKit Go.Proofs.YtejnbjclcdmopaaW.PrintWords Go.Proofs.YtejnbjclcdmopaaW.PrintLast Go.Proofs.YtejnbjclcdmopaaW.PrintMore Go.Proofs.Ytejnbjclcdmopaa.MB
theorem q_Clamp_eq (a lo hi : Int) : q_Clamp.f a lo hi = some (cl a lo hi) := by
  unfold q_Clamp.f cl; split
  · rfl
  · split <;> rfl
theorem q_Hold_eq (a : Int) : q_Hold.f a = some (hd a) := by unfold q_Hold.f; rw [q_Clamp_eq]; rfl
theorem q_Add_eq (a b : Int) : q_Add.f a b = some (add a b) := by
  unfold q_Add.f
  simp only [q_Hold_eq, Option.bind_some]
  have h1 := hd_bd a
  have h2 := hd_bd b
  rw [w64 (by omega) (by omega)]; rfl
theorem bits_Mul64_eq (x y : Int) (hx : 0 ≤ x ∧ x < 18446744073709551616) (hy : 0 ≤ y ∧ y < 18446744073709551616) :
    bits_Mul64.f x y = some (x * y / 18446744073709551616, x * y % 18446744073709551616) := by
  unfold bits_Mul64.f
  simp only [and32u]
  rw [mul64_parts x y (x / 4294967296) (x % 4294967296) (y / 4294967296) (y % 4294967296) (by omega) (by omega) (by omega) (by omega) (by omega) (by omega), u64w (x * y)]
theorem q_product_eq (a b : Int) (ha : -9223372036854775808 ≤ a ∧ a ≤ 9223372036854775807) (hb : -9223372036854775808 ≤ b ∧ b ≤ 9223372036854775807) :
    q_product.f a b = some ((a * b / 18446744073709551616) % 18446744073709551616, a * b % 18446744073709551616) := by
  unfold q_product.f
  simp only [u64w]
  rw [bits_Mul64_eq _ _ (by omega) (by omega)]
  simp only [Option.bind_some]
  by_cases h1 : a < 0
  · have ea : a % 18446744073709551616 = a + 18446744073709551616 := by omega
    by_cases h2 : b < 0
    · have eb : b % 18446744073709551616 = b + 18446744073709551616 := by omega
      rw [if_pos h1, if_pos h2, ea, eb]
      have e : (a + 18446744073709551616) * (b + 18446744073709551616) = a * b + a * 18446744073709551616 + b * 18446744073709551616 + 340282366920938463463374607431768211456 := by grind
      rw [e]; generalize a * b = p; congr 2 <;> omega
    · have eb : b % 18446744073709551616 = b := by omega
      rw [if_pos h1, if_neg h2, ea, eb]
      have e : (a + 18446744073709551616) * b = a * b + b * 18446744073709551616 := by grind
      rw [e]; generalize a * b = p; congr 2 <;> omega
  · have ea : a % 18446744073709551616 = a := by omega
    by_cases h2 : b < 0
    · have eb : b % 18446744073709551616 = b + 18446744073709551616 := by omega
      rw [if_neg h1, if_pos h2, ea, eb]
      have e : a * (b + 18446744073709551616) = a * b + a * 18446744073709551616 := by grind
      rw [e]; generalize a * b = p; congr 2 <;> omega
    · have eb : b % 18446744073709551616 = b := by omega
      rw [if_neg h1, if_neg h2, ea, eb]
      have hp : 0 ≤ a * b := Int.mul_nonneg (by omega) (by omega)
      have hp2 : a * b ≤ 9223372036854775807 * 9223372036854775807 := Int.mul_le_mul ha.2 hb.2 (by omega) (by omega)
      generalize a * b = p at *; congr 2; omega
theorem or48 (x y : Int) (hx : 0 ≤ x) (hy : 0 ≤ y ∧ y < 281474976710656) : Go.bits .or .u64 (IntKind.u64.wrap (x * 281474976710656)) y = (x * 281474976710656) % 18446744073709551616 + y := by
  rw [u64w]
  exact bits_join .u64 64 (by decide) (fun n h h' => by rw [u64w]; omega) 48 _ y (by omega) (by omega) (by omega) hy.1 (by omega) (by omega)
theorem q_down_eq (k : Nat) (p : Int) (hp : -1208925819614629174706176 ≤ p ∧ p ≤ 1208925819614629174706176) :
    ∃ r, q_down.f (k + 1) ((p / 18446744073709551616) % 18446744073709551616) (p % 18446744073709551616) = some r ∧ hd r = hd (p / 65536) := by
  unfold q_down.f
  rw [or48 _ _ (by omega) (by omega)]
  generalize hw : wrap64 (p / 18446744073709551616 % 18446744073709551616) = t
  have ht : t = p / 18446744073709551616 := by rw [← hw]; unfold wrap64; omega
  generalize hv : (p / 18446744073709551616 % 18446744073709551616 * 281474976710656) % 18446744073709551616 + p % 18446744073709551616 / 65536 = v
  have hv' : v = (p / 65536) % 18446744073709551616 := by rw [← hv]; omega
  clear hv hw
  have h1 : ¬ t / 65536 < -1 := by omega
  rw [if_neg h1]
  by_cases h2 : t / 65536 = -1
  · rw [if_pos h2]
    by_cases h3 : v / 9223372036854775808 = 0
    · have e : ((v / 9223372036854775808) == 0) = true := by simpa using h3
      rw [e]; simp only [q_down.j0, if_true]
      exact ⟨_, rfl, by rw [hd_lo (by omega), hd_lo (by omega)]⟩
    · have e : ((v / 9223372036854775808) == 0) = false := by simpa using h3
      rw [e]; simp only [q_down.j0]
      rw [if_neg (by decide), if_neg (by omega), if_neg (by omega)]
      exact ⟨_, rfl, by congr 1; unfold wrap64; omega⟩
  · rw [if_neg h2]; simp only [q_down.j0]
    rw [if_neg (by decide)]
    by_cases h4 : t / 65536 > 0
    · rw [if_pos h4]; exact ⟨_, rfl, by rw [hd_hi (by omega), hd_hi (by omega)]⟩
    · rw [if_neg h4, if_pos (by omega)]
      by_cases h3 : v / 9223372036854775808 = 0
      · rw [if_pos h3]; exact ⟨_, rfl, by congr 1; unfold wrap64; omega⟩
      · rw [if_neg h3]; exact ⟨_, rfl, by rw [hd_hi (by omega), hd_hi (by omega)]⟩
theorem q_Mul_eq (k : Nat) (a b : Int) : q_Mul.f (k + 1) a b = some (mul a b) := by
  unfold q_Mul.f
  simp only [q_Hold_eq, Option.bind_some]
  have h1 := hd_bd a
  have h2 := hd_bd b
  rw [q_product_eq _ _ (by omega) (by omega)]
  simp only [Option.bind_some]
  obtain ⟨r, e, h⟩ := q_down_eq k _ (prod_bd _ _ h1 h2)
  rw [e]; simp only [Option.bind_some]
  rw [h]; rfl
theorem q_Mul_ge {k : Nat} (hk : 1 ≤ k) (a b : Int) : q_Mul.f k a b = some (mul a b) := by
  obtain ⟨m, rfl⟩ : ∃ m, k = m + 1 := ⟨k - 1, by omega⟩
  exact q_Mul_eq m a b
end Go.Proofs.Ytejnbjclcdmopaa.PA
end

section
set_option linter.unusedVariables false
namespace Go.Proofs.Ytejnbjclcdmopaa.PA
open Go.RowKit Go.Proofs.YtejnbjclcdmopaaW.PrintWords Go.Proofs.YtejnbjclcdmopaaW.PrintLast Go.Proofs.YtejnbjclcdmopaaW.PrintMore Go.Proofs.Ytejnbjclcdmopaa.MB
theorem r1_Clamp_eq (a lo hi : Int) : mutoscoperef1_Clamp.f a lo hi = some (cl a lo hi) := by
  unfold mutoscoperef1_Clamp.f cl; split
  · rfl
  · split <;> rfl
theorem r1_Hold_eq (a : Int) : mutoscoperef1_Hold.f a = some (hd a) := by unfold mutoscoperef1_Hold.f; rw [r1_Clamp_eq]; rfl
theorem r1_Add_eq (a b : Int) : mutoscoperef1_Add.f a b = some (add a b) := by
  unfold mutoscoperef1_Add.f
  simp only [r1_Hold_eq, Option.bind_some]
  have h1 := hd_bd a
  have h2 := hd_bd b
  rw [w64 (by omega) (by omega)]; rfl
theorem lz16 (k : Nat) : bits_LeadingZeros64.f (k + 1) 65536 = some 47 := by kernel_rfl
theorem shl47 (x : Int) : shl .u64 x 47 = (x * 140737488355328) % 18446744073709551616 := by
  unfold shl; rw [u64w]; rfl
theorem shr17 (x : Int) : shr .u64 x 17 = x / 131072 := rfl
theorem shr47 (x : Int) : shr .u64 x 47 = x / 140737488355328 := rfl
theorem or47 (x y : Int) (hx : 0 ≤ x ∧ x < 65536) (hy : 0 ≤ y ∧ y < 140737488355328) : Go.bits .or .u64 (x * 140737488355328) y = x * 140737488355328 + y :=
  bits_join .u64 64 (by decide) (fun n h h' => by rw [u64w]; omega) 47 _ y (by omega) (by omega) (by omega) hy.1 (by omega) (by omega)
theorem tdiv_nn {a b : Int} (ha : 0 ≤ a) : Int.tdiv a b = a / b := Int.tdiv_eq_ediv_of_nonneg ha
theorem tmod_nn {a b : Int} (ha : 0 ≤ a) : Int.tmod a b = a % b := Int.tmod_eq_emod_of_nonneg ha
theorem div64_one (k : Nat) (hi lo : Int) (h1 : 0 ≤ hi ∧ hi < 65536) (h2 : 0 ≤ lo ∧ lo < 18446744073709551616) :
    bits_Div64.f (k + 5) hi lo 65536 = some ((hi * 18446744073709551616 + lo) / 65536, (hi * 18446744073709551616 + lo) % 65536) := by
  unfold bits_Div64.f
  rw [if_neg (by decide), if_neg (by omega)]
  by_cases h0 : hi = 0
  · rw [if_pos h0, tdiv_nn h2.1, tmod_nn h2.1, u64id (by omega) (by omega), h0]; congr 2 <;> omega
  · rw [if_neg h0, lz16]
    simp only [Option.bind_some]
    rw [show IntKind.u64.wrap 47 = 47 from by decide, if_pos (by decide), show IntKind.u64.wrap (64 - 47) = 17 from by decide, if_pos (by decide)]
    rw [shl47, shl47, shl47, shr17, show (65536 * 140737488355328 % 18446744073709551616 : Int) = 9223372036854775808 from by decide, show (9223372036854775808 / 4294967296 : Int) = 2147483648 from by decide]
    rw [if_neg (by decide), and32u, and32u, show (9223372036854775808 % 4294967296 : Int) = 0 from by decide, show hi * 140737488355328 % 18446744073709551616 = hi * 140737488355328 from by omega, or47 _ _ h1 (by omega)]
    have hu : 0 ≤ hi * 140737488355328 + lo / 131072 ∧ hi * 140737488355328 + lo / 131072 < 9223372036854775808 := by omega
    generalize hu' : hi * 140737488355328 + lo / 131072 = u at hu ⊢
    rw [tdiv_nn hu.1, u64id (x := u / 2147483648) (by omega) (by omega), u64id (x := u / 2147483648 * 2147483648) (by omega) (by omega), u64id (x := u - u / 2147483648 * 2147483648) (by omega) (by omega)]
    simp only [bits_Div64.l0]
    rw [if_neg (by omega)]
    rw [show decide (IntKind.u64.wrap (u / 2147483648 * 0) > IntKind.u64.wrap (IntKind.u64.wrap (4294967296 * (u - u / 2147483648 * 2147483648)) + lo * 140737488355328 % 18446744073709551616 / 4294967296)) = false from by simp only [u64w]; apply decide_eq_false; omega]
    simp only [bits_Div64.j1]
    rw [if_neg (by decide)]
    simp only [bits_Div64.j2]
    rw [if_neg (by decide)]
    rw [show IntKind.u64.wrap (IntKind.u64.wrap (IntKind.u64.wrap (u * 4294967296) + lo * 140737488355328 % 18446744073709551616 / 4294967296) - IntKind.u64.wrap (u / 2147483648 * 9223372036854775808)) = (u % 2147483648) * 4294967296 + lo * 140737488355328 % 18446744073709551616 / 4294967296 from by simp only [u64w]; omega]
    have hv : 0 ≤ (u % 2147483648) * 4294967296 + lo * 140737488355328 % 18446744073709551616 / 4294967296 ∧ (u % 2147483648) * 4294967296 + lo * 140737488355328 % 18446744073709551616 / 4294967296 < 9223372036854775808 := by omega
    generalize hv' : (u % 2147483648) * 4294967296 + lo * 140737488355328 % 18446744073709551616 / 4294967296 = v at hv ⊢
    rw [tdiv_nn hv.1, u64id (x := v / 2147483648) (by omega) (by omega), u64id (x := v / 2147483648 * 2147483648) (by omega) (by omega), u64id (x := v - v / 2147483648 * 2147483648) (by omega) (by omega)]
    simp only [bits_Div64.l1]
    rw [if_neg (by omega)]
    rw [show decide (IntKind.u64.wrap (v / 2147483648 * 0) > IntKind.u64.wrap (IntKind.u64.wrap (4294967296 * (v - v / 2147483648 * 2147483648)) + lo * 140737488355328 % 18446744073709551616 % 4294967296)) = false from by simp only [u64w]; apply decide_eq_false; omega]
    simp only [bits_Div64.j4]
    rw [if_neg (by decide), if_pos (by decide), shr47]
    simp only [u64w]
    congr 2 <;> omega
theorem r1_size_eq (a : Int) (h : -1099511627776 ≤ a ∧ a ≤ 1099511627776) : mutoscoperef1_size.f a = some (if a < 0 then -a else a, decide (a < 0)) := by
  unfold mutoscoperef1_size.f
  by_cases h0 : a < 0
  · rw [if_pos h0, if_pos h0, w64 (by omega) (by omega), u64id (by omega) (by omega), decide_eq_true h0]
  · rw [if_neg h0, if_neg h0, u64id (by omega) (by omega), decide_eq_false h0]
theorem r1_down_eq (k : Nat) (hi lo : Int) (m : Bool) (h1 : 0 ≤ hi ∧ hi ≤ 65536) (h2 : 0 ≤ lo ∧ lo < 18446744073709551616) :
    mutoscoperef1_down.f (k + 5) hi lo 65536 m = some (hd ((if m = true then -(hi * 18446744073709551616 + lo) else hi * 18446744073709551616 + lo) / 65536)) := by
  unfold mutoscoperef1_down.f
  by_cases h0 : hi ≥ 65536
  · rw [if_pos h0]
    cases m
    · rw [if_neg (by decide), if_neg (by decide), hd_hi (by omega)]
    · rw [if_pos rfl, if_pos rfl, hd_lo (by omega)]
  · rw [if_neg h0, div64_one k hi lo (by omega) h2]
    simp only [Option.bind_some]
    generalize hp : hi * 18446744073709551616 + lo = p
    have hp0 : 0 ≤ p ∧ p < 1208925819614629174706176 := by omega
    clear hp
    have key : ∀ (x : Int) (b m : Bool), mutoscoperef1_down.j0 (k + 5) m x b = some (hd (wrap64 (if m = true then -(wrap64 (mn (if b = true then IntKind.u64.wrap (x + 1) else x) 4611686018427387904)) else (mn (if b = true then IntKind.u64.wrap (x + 1) else x) 4611686018427387904)))) := by
      intro x b m
      have ww : ∀ z : Int, wrap64 (wrap64 z) = wrap64 z := fun z => by unfold wrap64; omega
      cases b <;> cases m <;> simp [mutoscoperef1_down.j0, r1_Hold_eq]
    cases m
    · rw [if_neg (by decide), if_neg (by decide), key]
      simp only [Bool.false_eq_true, if_false]
      congr 1
      unfold mn
      split
      · rw [show wrap64 4611686018427387904 = 4611686018427387904 from w64 (by decide) (by decide), hd_hi (by omega), hd_hi (by omega)]
      · rw [w64 (by omega) (by omega)]
    · rw [if_pos rfl, if_pos rfl]
      by_cases hr : p % 65536 > 0
      · rw [if_pos hr, key]
        congr 1
        simp only [if_true]
        by_cases hb : p / 65536 < 4611686018427387904
        · rw [decide_eq_true hb, if_pos rfl, u64id (by omega) (by omega)]
          unfold mn
          rw [if_neg (by omega), w64 (x := p / 65536 + 1) (by omega) (by omega), w64 (by omega) (by omega)]
          congr 1; omega
        · rw [decide_eq_false hb, if_neg (by decide)]
          have e : mn (p / 65536) 4611686018427387904 = 4611686018427387904 := by unfold mn; split <;> omega
          rw [e, show wrap64 4611686018427387904 = 4611686018427387904 from w64 (by decide) (by decide), show wrap64 (-4611686018427387904) = -4611686018427387904 from w64 (by decide) (by decide), hd_lo (by omega), hd_lo (by omega)]
      · rw [if_neg hr, key]
        congr 1
        simp only [if_true, Bool.false_eq_true, if_false]
        unfold mn
        split
        · rw [show wrap64 4611686018427387904 = 4611686018427387904 from w64 (by decide) (by decide), show wrap64 (-4611686018427387904) = -4611686018427387904 from w64 (by decide) (by decide), hd_lo (by omega), hd_lo (by omega)]
        · rw [w64 (x := p / 65536) (by omega) (by omega), w64 (by omega) (by omega)]
          congr 1; omega
theorem r1_Mul_eq (k : Nat) (a b : Int) : mutoscoperef1_Mul.f (k + 5) a b = some (mul a b) := by
  unfold mutoscoperef1_Mul.f mul
  have h1 := hd_bd a
  have h2 := hd_bd b
  simp only [r1_Hold_eq, Option.bind_some, r1_size_eq _ h1, r1_size_eq _ h2]
  generalize hd a = x at *
  generalize hd b = y at *
  have hx : 0 ≤ (if x < 0 then -x else x) ∧ (if x < 0 then -x else x) ≤ 1099511627776 := by split <;> omega
  have hy : 0 ≤ (if y < 0 then -y else y) ∧ (if y < 0 then -y else y) ≤ 1099511627776 := by split <;> omega
  have e : (if (decide (x < 0) != decide (y < 0)) = true then -((if x < 0 then -x else x) * (if y < 0 then -y else y)) else (if x < 0 then -x else x) * (if y < 0 then -y else y)) = x * y := by
    by_cases a1 : x < 0 <;> by_cases a2 : y < 0 <;> simp [a1, a2, Int.neg_mul, Int.mul_neg]
  rw [bits_Mul64_eq _ _ (by omega) (by omega)]
  simp only [Option.bind_some]
  have hb := prod_bd _ _ (And.intro (by omega : -1099511627776 ≤ (if x < 0 then -x else x)) hx.2) (And.intro (by omega : -1099511627776 ≤ (if y < 0 then -y else y)) hy.2)
  have hn := Int.mul_nonneg hx.1 hy.1
  rw [r1_down_eq k _ _ _ (by omega) (by omega)]
  simp only [Option.bind_some]
  rw [show (if x < 0 then -x else x) * (if y < 0 then -y else y) / 18446744073709551616 * 18446744073709551616 + (if x < 0 then -x else x) * (if y < 0 then -y else y) % 18446744073709551616 = (if x < 0 then -x else x) * (if y < 0 then -y else y) from by omega, e]
theorem r1_Mul_ge {k : Nat} (hk : 5 ≤ k) (a b : Int) : mutoscoperef1_Mul.f k a b = some (mul a b) := by
  obtain ⟨m, rfl⟩ : ∃ m, k = m + 5 := ⟨k - 5, by omega⟩
  exact r1_Mul_eq m a b
end Go.Proofs.Ytejnbjclcdmopaa.PA
end

section
set_option linter.unusedVariables false
namespace Go.Proofs.Ytejnbjclcdmopaa.MB
def bend (a b t : Int) : Int :=
  add (add (mul (3 * mul (mul (65536 - cl t 0 65536) (65536 - cl t 0 65536)) (cl t 0 65536)) a) (mul (3 * mul (mul (65536 - cl t 0 65536) (cl t 0 65536)) (cl t 0 65536)) b)) (mul (mul (cl t 0 65536) (cl t 0 65536)) (cl t 0 65536))
def halve : Nat → (Int → Int) → Int → Int → Int → Int
  | 0, _, _, lo, _ => lo
  | n + 1, g, x, lo, hi => if g ((lo + hi) / 2) ≤ x then halve n g x ((lo + hi) / 2) hi else halve n g x lo ((lo + hi) / 2)
def curve (x1 y1 x2 y2 x : Int) : Int := if x ≤ 0 then 0 else if x ≥ 65536 then 65536 else bend y1 y2 (halve 16 (bend x1 x2) x 0 65536)
def prt (a b t : Int) : Int := if hd t ≤ hd a then 0 else if hd t ≥ hd b then 65536 else (hd t - hd a) * 65536 / (hd b - hd a)
end Go.Proofs.Ytejnbjclcdmopaa.MB
namespace Go.Proofs.Ytejnbjclcdmopaa.PA
open Go.RowKit Go.Proofs.YtejnbjclcdmopaaW.PrintWords Go.Proofs.YtejnbjclcdmopaaW.PrintLast Go.Proofs.YtejnbjclcdmopaaW.PrintMore Go.Proofs.Ytejnbjclcdmopaa.MB
theorem ease_Bend_eq {k : Nat} (hk : 1 ≤ k) (a b t : Int) : ease_Bend.f k a b t = some (bend a b t) := by
  unfold ease_Bend.f
  have hc := cl_bd t 0 65536 (by omega)
  rw [q_Clamp_eq]
  simp only [Option.bind_some]
  rw [w64 (x := 65536 - cl t 0 65536) (by omega) (by omega)]
  simp only [q_Mul_ge hk, Option.bind_some]
  have h1 := mul_bd (mul (65536 - cl t 0 65536) (65536 - cl t 0 65536)) (cl t 0 65536)
  have h2 := mul_bd (mul (65536 - cl t 0 65536) (cl t 0 65536)) (cl t 0 65536)
  rw [w64 (by omega) (by omega), w64 (by omega) (by omega)]
  simp only [q_Add_eq, Option.bind_some]
  rfl
theorem ease_At_l0 (x1 y1 x2 y2 x : Int) : ∀ (n k : Nat) (lo hi i : Int), 0 ≤ lo → lo ≤ hi → hi ≤ 65536 → i = 16 - (n : Int) → 0 ≤ i → n + 2 ≤ k →
    ease_At.l0 k x lo hi i x1 y1 x2 y2 = some (bend y1 y2 (halve n (bend x1 x2) x lo hi)) := by
  intro n
  induction n with
  | zero =>
    intro k lo hi i h1 h2 h3 h4 h5 hk
    obtain ⟨k, rfl⟩ : ∃ m, k = m + 1 := ⟨k - 1, by omega⟩
    simp only [ease_At.l0]
    rw [if_neg (by omega), ease_Bend_eq (by omega)]
    rfl
  | succ n ih =>
    intro k lo hi i h1 h2 h3 h4 h5 hk
    obtain ⟨k, rfl⟩ : ∃ m, k = m + 1 := ⟨k - 1, by omega⟩
    simp only [ease_At.l0]
    rw [if_pos (by omega), w64 (x := lo + hi) (by omega) (by omega), ease_Bend_eq (by omega)]
    simp only [Option.bind_some, halve]
    rw [w64 (x := i + 1) (by omega) (by omega)]
    split
    · exact ih _ _ _ _ (by omega) (by omega) h3 (by omega) (by omega) (by omega)
    · exact ih _ _ _ _ h1 (by omega) (by omega) (by omega) (by omega) (by omega)
theorem ease_At_eq {k : Nat} (hk : 18 ≤ k) (x1 y1 x2 y2 x : Int) : ease_At.f k x1 y1 x2 y2 x = some (curve x1 y1 x2 y2 x) := by
  unfold ease_At.f curve
  split
  · rfl
  · split
    · rfl
    · exact ease_At_l0 x1 y1 x2 y2 x 16 k 0 65536 0 (by omega) (by omega) (by omega) (by omega) (by omega) (by omega)
theorem part_of (a b t : Int) (h1 : ¬ hd t ≤ hd a) (h2 : ¬ hd t ≥ hd b) : wrap64 (hd b - hd a) ≠ 0 ∧ wrap64 (Int.tdiv (wrap64 ((wrap64 (hd t - hd a)) * 65536)) (wrap64 (hd b - hd a))) = (hd t - hd a) * 65536 / (hd b - hd a) := by
  have ha := hd_bd a
  have hb := hd_bd b
  have ht := hd_bd t
  generalize hd a = x at *
  generalize hd b = y at *
  generalize hd t = z at *
  rw [w64 (x := y - x) (by omega) (by omega), w64 (x := z - x) (by omega) (by omega), w64 (x := (z - x) * 65536) (by omega) (by omega)]
  refine ⟨by omega, ?_⟩
  rw [Int.tdiv_eq_ediv_of_nonneg (by omega)]
  have q1 : 0 ≤ (z - x) * 65536 / (y - x) := Int.ediv_nonneg (by omega) (by omega)
  have q2 : (z - x) * 65536 / (y - x) ≤ (z - x) * 65536 := Int.ediv_le_self _ (by omega)
  exact w64 (by omega) (by omega)
theorem ease_Part_eq (a b t : Int) : ease_Part.f a b t = some (prt a b t) := by
  unfold ease_Part.f prt
  simp only [q_Hold_eq, Option.bind_some]
  by_cases h1 : hd t ≤ hd a
  · rw [if_pos h1, if_pos h1]
  · rw [if_neg h1, if_neg h1]
    by_cases h2 : hd t ≥ hd b
    · rw [if_pos h2, if_pos h2]
    · rw [if_neg h2, if_neg h2]
      obtain ⟨n, e⟩ := part_of a b t h1 h2
      rw [if_neg n, e]
theorem ease_Right_some (a b c d : Int) : ∃ r, ease_Right.f a b c d = some r := by
  have hw : ∀ x y z : Int, ∃ r, ease_Right_1.f x y z = some r := by intro x y z; unfold ease_Right_1.f; split <;> exact ⟨_, rfl⟩
  unfold ease_Right.f
  obtain ⟨r1, e1⟩ := hw a 0 65536
  obtain ⟨r2, e2⟩ := hw c 0 65536
  obtain ⟨r3, e3⟩ := hw b (-131072) 196608
  obtain ⟨r4, e4⟩ := hw d (-131072) 196608
  simp only [e1, e2, e3, e4, Option.bind_some]
  repeat (first | exact ⟨_, rfl⟩ | split)
end Go.Proofs.Ytejnbjclcdmopaa.PA
end

section
set_option linter.unusedVariables false
namespace Go.Proofs.Ytejnbjclcdmopaa.PA
open Go.RowKit Go.Proofs.YtejnbjclcdmopaaW.PrintWords Go.Proofs.YtejnbjclcdmopaaW.PrintLast Go.Proofs.YtejnbjclcdmopaaW.PrintMore Go.Proofs.Ytejnbjclcdmopaa.MB
theorem r5_Bend_eq {k : Nat} (hk : 5 ≤ k) (a b t : Int) : mutoscoperef5_Bend.f k a b t = some (bend a b t) := by
  unfold mutoscoperef5_Bend.f
  have hc := cl_bd t 0 65536 (by omega)
  rw [r1_Clamp_eq]
  simp only [Option.bind_some]
  rw [w64 (x := 65536 - cl t 0 65536) (by omega) (by omega)]
  simp only [r1_Mul_ge hk, Option.bind_some]
  have h1 := mul_bd (mul (65536 - cl t 0 65536) (65536 - cl t 0 65536)) (cl t 0 65536)
  have h2 := mul_bd (mul (65536 - cl t 0 65536) (cl t 0 65536)) (cl t 0 65536)
  rw [w64 (by omega) (by omega), w64 (by omega) (by omega)]
  simp only [r1_Add_eq, Option.bind_some]
  rfl
theorem r5_Curve_l0 (x1 y1 x2 y2 x : Int) : ∀ (n k : Nat) (lo hi i : Int), 0 ≤ lo → lo ≤ hi → hi ≤ 65536 → i = 16 - (n : Int) → 0 ≤ i → n + 6 ≤ k →
    mutoscoperef5_Curve.l0 k x lo hi i x1 y1 x2 y2 = some (bend y1 y2 (halve n (bend x1 x2) x lo hi)) := by
  intro n
  induction n with
  | zero =>
    intro k lo hi i h1 h2 h3 h4 h5 hk
    obtain ⟨k, rfl⟩ : ∃ m, k = m + 1 := ⟨k - 1, by omega⟩
    simp only [mutoscoperef5_Curve.l0]
    rw [if_neg (by omega), r5_Bend_eq (by omega)]
    rfl
  | succ n ih =>
    intro k lo hi i h1 h2 h3 h4 h5 hk
    obtain ⟨k, rfl⟩ : ∃ m, k = m + 1 := ⟨k - 1, by omega⟩
    simp only [mutoscoperef5_Curve.l0]
    rw [if_pos (by omega), w64 (x := lo + hi) (by omega) (by omega), tdiv_nn (by omega), w64 (x := (lo + hi) / 2) (by omega) (by omega), r5_Bend_eq (by omega)]
    simp only [Option.bind_some, halve]
    rw [w64 (x := i + 1) (by omega) (by omega)]
    split
    · exact ih _ _ _ _ (by omega) (by omega) h3 (by omega) (by omega) (by omega)
    · exact ih _ _ _ _ h1 (by omega) (by omega) (by omega) (by omega) (by omega)
theorem r5_Curve_eq {k : Nat} (hk : 22 ≤ k) (x1 y1 x2 y2 x : Int) : mutoscoperef5_Curve.f k x1 y1 x2 y2 x = some (curve x1 y1 x2 y2 x) := by
  unfold mutoscoperef5_Curve.f curve
  split
  · rfl
  · split
    · rfl
    · exact r5_Curve_l0 x1 y1 x2 y2 x 16 k 0 65536 0 (by omega) (by omega) (by omega) (by omega) (by omega) (by omega)
theorem r5_Part_eq (a b t : Int) : mutoscoperef5_Part.f a b t = some (prt a b t) := by
  unfold mutoscoperef5_Part.f prt
  simp only [r1_Hold_eq, Option.bind_some]
  by_cases h1 : hd t ≤ hd a
  · rw [if_pos h1, if_pos h1]
  · rw [if_neg h1, if_neg h1]
    by_cases h2 : hd t ≥ hd b
    · rw [if_pos h2, if_pos h2]
    · rw [if_neg h2, if_neg h2]
      obtain ⟨n, e⟩ := part_of a b t h1 h2
      rw [if_neg n, e]
theorem r5_Ease_eq (a b c d : Int) : mutoscoperef5_Ease.f a b c d = ease_Right.f a b c d := by
  have e : mutoscoperef5_within.f = ease_Right_1.f := rfl
  unfold mutoscoperef5_Ease.f ease_Right.f
  rw [e]
end Go.Proofs.Ytejnbjclcdmopaa.PA
end

section
set_option linter.unusedVariables false
namespace Go.Proofs.Ytejnbjclcdmopaa.PA
open Go.RowKit Go.Proofs.YtejnbjclcdmopaaW.PrintWords Go.Proofs.YtejnbjclcdmopaaW.PrintLast Go.Proofs.YtejnbjclcdmopaaW.PrintMore Go.Proofs.Ytejnbjclcdmopaa.MB
def fnd (l : List S34) (t : Int) : Nat → Int
  | 0 => -1
  | n + 1 => if (rd_T34 l n).f0 ≤ t then n else fnd l t n
def goes (how x1 y1 x2 y2 p : Int) : Int := if how = 0 then (if p ≥ 65536 then 65536 else 0) else if how = 1 then p else if how = 2 then curve x1 y1 x2 y2 p else 0
def mid (a b t : Int) : Int := add (hd a) (mul (add b (-(hd a))) t)
def kat (l : List S34) (t none : Int) : Int :=
  if (l.length : Int) = 0 then none else
  if fnd l t l.length = -1 then (rd_T34 l 0).f1 else
  if fnd l t l.length = (l.length : Int) - 1 then (rd_T34 l (fnd l t l.length)).f1 else
  mid (rd_T34 l (fnd l t l.length)).f1 (rd_T34 l (fnd l t l.length + 1)).f1
    (goes (rd_T34 l (fnd l t l.length)).f2 (rd_T34 l (fnd l t l.length)).f3.f0 (rd_T34 l (fnd l t l.length)).f3.f1 (rd_T34 l (fnd l t l.length)).f3.f2 (rd_T34 l (fnd l t l.length)).f3.f3
      (prt (rd_T34 l (fnd l t l.length)).f0 (rd_T34 l (fnd l t l.length + 1)).f0 t))
theorem fnd_bd (l : List S34) (t : Int) : ∀ n : Nat, -1 ≤ fnd l t n ∧ fnd l t n < (n : Int) := by
  intro n
  induction n with
  | zero => simp only [fnd]; omega
  | succ n ih => simp only [fnd]; split <;> omega
theorem key_Find_l0 (l : List S34) (t : Int) (hl : (l.length : Int) < 140737488355328) : ∀ (n k : Nat), n ≤ l.length → n + 1 ≤ k → key_Find.l0 k l t ((n : Int) - 1) = some (fnd l t n) := by
  intro n
  induction n with
  | zero =>
    intro k hn hk
    obtain ⟨k, rfl⟩ : ∃ m, k = m + 1 := ⟨k - 1, by omega⟩
    simp only [key_Find.l0]; rw [if_neg (by omega)]; rfl
  | succ n ih =>
    intro k hn hk
    obtain ⟨k, rfl⟩ : ∃ m, k = m + 1 := ⟨k - 1, by omega⟩
    have e : ((n + 1 : Nat) : Int) - 1 = (n : Int) := by omega
    simp only [key_Find.l0, fnd]
    rw [e, if_pos (by omega), if_pos (by omega), if_pos (by omega), w64 (by omega) (by omega), ih k (by omega) (by omega)]
    split <;> rfl
theorem key_Find_eq (l : List S34) (t : Int) (hl : (l.length : Int) < 140737488355328) {k : Nat} (hk : l.length + 1 ≤ k) : key_Find.f k l t = some (fnd l t l.length) := by
  unfold key_Find.f
  rw [w64 (by omega) (by omega)]
  exact key_Find_l0 l t hl l.length k (Nat.le_refl _) hk
theorem r5_Find_l0 (l : List S34) (t : Int) (hl : (l.length : Int) < 140737488355328) : ∀ (d k : Nat) (i : Nat), i + d = l.length → d + 1 ≤ k → mutoscoperef5_Find.l0 k l t (fnd l t i) (i : Int) = some (fnd l t l.length) := by
  intro d
  induction d with
  | zero =>
    intro k i hi hk
    obtain ⟨k, rfl⟩ : ∃ m, k = m + 1 := ⟨k - 1, by omega⟩
    simp only [mutoscoperef5_Find.l0]; rw [if_neg (by omega), show i = l.length by omega]
  | succ d ih =>
    intro k i hi hk
    obtain ⟨k, rfl⟩ : ∃ m, k = m + 1 := ⟨k - 1, by omega⟩
    have h := ih k (i + 1) (by omega) (by omega)
    simp only [mutoscoperef5_Find.l0]
    rw [if_pos (by omega), if_pos (by omega), w64 (by omega) (by omega)]
    simp only [fnd] at h
    rw [show ((i + 1 : Nat) : Int) = (i : Int) + 1 from by omega] at h
    split
    · rename_i hc; rw [if_pos hc] at h; exact h
    · rename_i hc; rw [if_neg hc] at h; exact h
theorem r5_Find_eq (l : List S34) (t : Int) (hl : (l.length : Int) < 140737488355328) {k : Nat} (hk : l.length + 1 ≤ k) : mutoscoperef5_Find.f k l t = some (fnd l t l.length) := by
  unfold mutoscoperef5_Find.f
  exact r5_Find_l0 l t hl l.length k 0 (by omega) hk
theorem key_Goes_eq {k : Nat} (hk : 19 ≤ k) (how x1 y1 x2 y2 p : Int) : key_Goes.f k how x1 y1 x2 y2 p = some (goes how x1 y1 x2 y2 p) := by
  obtain ⟨k, rfl⟩ : ∃ m, k = m + 1 := ⟨k - 1, by omega⟩
  have hj : ∀ b, key_Goes.j0 (k + 1) how p b x1 y1 x2 y2 = some (if b = true then 65536 else if how = 1 then p else if how = 2 then curve x1 y1 x2 y2 p else 0) := by
    intro b
    simp only [key_Goes.j0, ease_At_eq (show 18 ≤ k by omega), Option.bind_some]
    repeat (first | rfl | split)
  unfold key_Goes.f goes
  rw [hj, hj]
  by_cases h : how = 0
  · rw [if_pos h, if_pos h]
    by_cases h2 : p ≥ 65536
    · rw [decide_eq_true h2, if_pos rfl, if_pos h2]
    · rw [decide_eq_false h2, if_neg (by decide), if_neg h2, if_neg (by omega), if_neg (by omega)]
  · rw [if_neg h, if_neg h, if_neg (by decide)]
theorem r5_Goes_eq {k : Nat} (hk : 22 ≤ k) (how x1 y1 x2 y2 p : Int) : mutoscoperef5_Goes.f k how x1 y1 x2 y2 p = some (goes how x1 y1 x2 y2 p) := by
  unfold mutoscoperef5_Goes.f goes
  simp only [r5_Curve_eq hk, Option.bind_some]
  repeat (first | rfl | split)
theorem q_Mid_eq {k : Nat} (hk : 1 ≤ k) (a b t : Int) : q_Mid.f k a b t = some (mid a b t) := by
  unfold q_Mid.f
  have h := hd_bd a
  simp only [q_Hold_eq, Option.bind_some]
  rw [w64 (by omega) (by omega)]
  simp only [q_Add_eq, q_Mul_ge hk, Option.bind_some]
  have e : hd (hd a) = hd a := hd_of h.1 h.2
  unfold mid add
  rw [e]
theorem r1_Mid_eq {k : Nat} (hk : 5 ≤ k) (a b t : Int) : mutoscoperef1_Mid.f k a b t = some (mid a b t) := by
  unfold mutoscoperef1_Mid.f
  have h := hd_bd a
  simp only [r1_Hold_eq, Option.bind_some]
  rw [w64 (by omega) (by omega)]
  simp only [r1_Add_eq, r1_Mul_ge hk, Option.bind_some]
  have e : hd (hd a) = hd a := hd_of h.1 h.2
  unfold mid add
  rw [e]
theorem key_At_eq (l : List S34) (t none : Int) (hl : (l.length : Int) < 140737488355328) {k : Nat} (hk : l.length + 22 ≤ k) : key_At.f k l t none = some (kat l t none) := by
  unfold key_At.f kat
  have hb := fnd_bd l t l.length
  by_cases h0 : (l.length : Int) = 0
  · rw [if_pos h0, if_pos h0]
  · rw [if_neg h0, if_neg h0, key_Find_eq l t hl (by omega)]
    simp only [Option.bind_some]
    generalize fnd l t l.length = i at *
    by_cases h1 : i = -1
    · rw [if_pos h1, if_pos h1, if_pos (by omega)]
    · rw [if_neg h1, if_neg h1, w64 (x := (l.length : Int) - 1) (by omega) (by omega)]
      by_cases h2 : i = (l.length : Int) - 1
      · rw [if_pos h2, if_pos h2, if_pos (by omega), if_pos (by omega)]
      · rw [if_neg h2, if_neg h2, if_pos (by omega), if_pos (by omega), w64 (x := i + 1) (by omega) (by omega), if_pos (by omega), if_pos (by omega)]
        simp only [ease_Part_eq, Option.bind_some, key_Goes_eq (show 19 ≤ k by omega), q_Mid_eq (show 1 ≤ k by omega)]
theorem r5_At_eq (l : List S34) (t none : Int) (hl : (l.length : Int) < 140737488355328) {k : Nat} (hk : l.length + 22 ≤ k) : mutoscoperef5_At.f k l t none = some (kat l t none) := by
  unfold mutoscoperef5_At.f kat
  have hb := fnd_bd l t l.length
  by_cases h0 : (l.length : Int) = 0
  · rw [if_pos h0, if_pos h0]
  · rw [if_neg h0, if_neg h0, r5_Find_eq l t hl (by omega)]
    simp only [Option.bind_some]
    generalize fnd l t l.length = i at *
    by_cases h1 : i = -1
    · rw [if_pos (by omega), if_pos h1, if_pos (by omega)]
    · rw [if_neg (by omega), if_neg h1, w64 (x := (l.length : Int) - 1) (by omega) (by omega)]
      by_cases h2 : i = (l.length : Int) - 1
      · rw [if_pos h2, if_pos h2, if_pos (by omega), if_pos (by omega)]
      · rw [if_neg h2, if_neg h2, if_pos (by omega), if_pos (by omega), w64 (x := i + 1) (by omega) (by omega), if_pos (by omega), if_pos (by omega)]
        simp only [r5_Part_eq, Option.bind_some, r5_Goes_eq (show 22 ≤ k by omega), r1_Mid_eq (show 5 ≤ k by omega)]
def way (how x1 y1 x2 y2 : Int) : Bool := if how = 2 then (ease_Right.f x1 y1 x2 y2).getD false else if how = 0 ∨ how = 1 then (x1 == 0 && (y1 == 0 && (x2 == 0 && (y2 == 0)))) else false
def stp (i ahead t how x1 y1 x2 y2 : Int) : Bool := decide (-1073741824 ≤ t) && (decide (t ≤ 1073741824) && (decide (i > 0 → ahead < t) && way how x1 y1 x2 y2))
theorem key_Step_eq {k : Nat} (hk : 1 ≤ k) (i ahead t how x1 y1 x2 y2 : Int) : key_Step.f k i ahead t how x1 y1 x2 y2 = some (stp i ahead t how x1 y1 x2 y2) := by
  obtain ⟨k, rfl⟩ : ∃ m, k = m + 1 := ⟨k - 1, by omega⟩
  obtain ⟨r, hr⟩ := ease_Right_some x1 y1 x2 y2
  have hj : ∀ b, key_Step.j0 (k + 1) how b x1 y1 x2 y2 = some (!b && way how x1 y1 x2 y2) := by
    intro b
    simp only [key_Step.j0, hr, Option.bind_some, way, Option.getD_some]
    cases b
    · rw [if_neg (by decide)]
      by_cases h2 : how = 2
      · rw [if_pos h2, if_pos h2]; rfl
      · rw [if_neg h2, if_neg h2]
        by_cases h0 : how = 0
        · rw [if_pos h0, if_pos (.inl h0)]; rfl
        · rw [if_neg h0]
          by_cases h1 : how = 1
          · rw [if_pos h1, if_pos (.inr h1)]; rfl
          · rw [if_neg h1, if_neg (by omega)]; rfl
    · rw [if_pos rfl]; rfl
  unfold key_Step.f stp
  simp only [hj]
  by_cases c1 : t < -1073741824
  · rw [if_pos c1, decide_eq_false (show ¬ -1073741824 ≤ t by omega)]; rfl
  · rw [if_neg c1, decide_eq_true (show -1073741824 ≤ t by omega)]
    by_cases c2 : t > 1073741824
    · rw [if_pos c2, decide_eq_false (show ¬ t ≤ 1073741824 by omega)]; rfl
    · rw [if_neg c2, decide_eq_true (show t ≤ 1073741824 by omega)]
      by_cases c3 : i > 0
      · rw [if_pos c3]
        by_cases c4 : t ≤ ahead
        · rw [decide_eq_true c4, decide_eq_false (show ¬ (i > 0 → ahead < t) from fun h => by have := h c3; omega)]; rfl
        · rw [decide_eq_false c4, decide_eq_true (show (i > 0 → ahead < t) from fun _ => by omega)]; rfl
      · rw [if_neg c3, decide_eq_true (show (i > 0 → ahead < t) from fun h => absurd h c3)]; rfl
theorem r5_Moves_eq (t how x1 y1 x2 y2 : Int) : mutoscoperef5_Moves.f t how x1 y1 x2 y2 = some (stp 0 0 t how x1 y1 x2 y2) := by
  obtain ⟨r, hr⟩ := ease_Right_some x1 y1 x2 y2
  unfold mutoscoperef5_Moves.f stp
  rw [r5_Ease_eq, hr]
  simp only [Option.bind_some, way, hr, Option.getD_some]
  have e : mutoscoperef5_within.f t (-1073741824) 1073741824 = some (decide (-1073741824 ≤ t) && decide (t ≤ 1073741824)) := by
    unfold mutoscoperef5_within.f
    by_cases c : t ≥ -1073741824
    · rw [if_pos c, decide_eq_true (show -1073741824 ≤ t by omega)]; rfl
    · rw [if_neg c, decide_eq_false (show ¬ -1073741824 ≤ t by omega)]; rfl
  rw [e]
  simp only [Option.bind_some]
  rw [show decide ((0 : Int) > 0 → (0 : Int) < t) = true from decide_eq_true (fun h => absurd h (by decide)), Bool.true_and]
  generalize decide (-1073741824 ≤ t) = u
  generalize decide (t ≤ 1073741824) = v
  cases u
  · rfl
  · cases v
    · rfl
    · rw [if_pos (show (true && true) = true from rfl), Bool.true_and, Bool.true_and]
      by_cases h2 : how = 2
      · rw [if_pos h2, if_pos h2]
      · rw [if_neg h2, if_neg h2]
        by_cases h0 : how = 0
        · rw [if_pos h0, if_pos (.inl h0)]
        · rw [if_neg h0]
          by_cases h1 : how = 1
          · rw [if_pos h1, if_pos (.inr h1)]
          · rw [if_neg h1, if_neg (by omega)]
def kok (l : List S34) (i : Int) : Bool :=
  stp i (rd_T34 l (i - 1)).f0 (rd_T34 l i).f0 (rd_T34 l i).f2 (rd_T34 l i).f3.f0 (rd_T34 l i).f3.f1 (rd_T34 l i).f3.f2 (rd_T34 l i).f3.f3 &&
    (decide (-67108864 ≤ (rd_T34 l i).f1) && decide ((rd_T34 l i).f1 ≤ 67108864))
def krt (l : List S34) : Nat → Int → Bool
  | 0, _ => decide ((l.length : Int) ≤ 32)
  | d + 1, i => kok l i && krt l d (i + 1)
theorem key_Right_l0 (l : List S34) (hl : (l.length : Int) < 140737488355328) : ∀ (d k : Nat) (i ahead : Int), 0 ≤ i → i + d = (l.length : Int) → (i > 0 → ahead = (rd_T34 l (i - 1)).f0) → d + 2 ≤ k →
    key_Right.l0 k l ahead l (l.length : Int) i = some (krt l d i) := by
  intro d
  induction d with
  | zero =>
    intro k i ahead h0 hi ha hk
    obtain ⟨k, rfl⟩ : ∃ m, k = m + 1 := ⟨k - 1, by omega⟩
    simp only [key_Right.l0, krt]; rw [if_neg (by omega)]
  | succ d ih =>
    intro k i ahead h0 hi ha hk
    obtain ⟨k, rfl⟩ : ∃ m, k = m + 1 := ⟨k - 1, by omega⟩
    simp only [key_Right.l0, krt]
    rw [if_pos (by omega), if_pos h0, if_pos (by omega), key_Step_eq (by omega), w64 (by omega) (by omega), ih k (i + 1) _ (by omega) (by omega) (fun _ => by rw [show i + 1 - 1 = i by omega]) (by omega)]
    simp only [Option.bind_some]
    have e : stp i ahead (rd_T34 l i).f0 (rd_T34 l i).f2 (rd_T34 l i).f3.f0 (rd_T34 l i).f3.f1 (rd_T34 l i).f3.f2 (rd_T34 l i).f3.f3 = stp i (rd_T34 l (i - 1)).f0 (rd_T34 l i).f0 (rd_T34 l i).f2 (rd_T34 l i).f3.f0 (rd_T34 l i).f3.f1 (rd_T34 l i).f3.f2 (rd_T34 l i).f3.f3 := by
      by_cases hp : i > 0
      · rw [ha hp]
      · unfold stp
        rw [decide_eq_true (show (i > 0 → ahead < (rd_T34 l i).f0) from fun h => absurd h hp), decide_eq_true (show (i > 0 → (rd_T34 l (i - 1)).f0 < (rd_T34 l i).f0) from fun h => absurd h hp)]
    rw [e]
    unfold kok
    cases stp i (rd_T34 l (i - 1)).f0 (rd_T34 l i).f0 (rd_T34 l i).f2 (rd_T34 l i).f3.f0 (rd_T34 l i).f3.f1 (rd_T34 l i).f3.f2 (rd_T34 l i).f3.f3
    · rw [if_neg (by decide)]; rfl
    · rw [if_pos rfl, Bool.true_and]
      by_cases c1 : (rd_T34 l i).f1 < -67108864
      · rw [if_pos c1, decide_eq_false (show ¬ -67108864 ≤ (rd_T34 l i).f1 by omega)]; rfl
      · rw [if_neg c1, decide_eq_true (show -67108864 ≤ (rd_T34 l i).f1 by omega)]
        by_cases c2 : (rd_T34 l i).f1 > 67108864
        · rw [if_pos c2, decide_eq_false (show ¬ (rd_T34 l i).f1 ≤ 67108864 by omega)]; rfl
        · rw [if_neg c2, decide_eq_true (show (rd_T34 l i).f1 ≤ 67108864 by omega)]; rfl
theorem key_Right_eq (l : List S34) (hl : (l.length : Int) < 140737488355328) {k : Nat} (hk : l.length + 2 ≤ k) : key_Right.f k l = some (krt l l.length 0) := by
  unfold key_Right.f
  exact key_Right_l0 l hl l.length k 0 0 (by omega) (by omega) (fun h => absurd h (by omega)) hk
theorem stp_0 (i ahead t how x1 y1 x2 y2 : Int) : stp i ahead t how x1 y1 x2 y2 = (stp 0 0 t how x1 y1 x2 y2 && decide (i > 0 → ahead < t)) := by
  unfold stp
  rw [show decide ((0 : Int) > 0 → (0 : Int) < t) = true from decide_eq_true (fun h => absurd h (by decide))]
  cases decide (-1073741824 ≤ t) <;> cases decide (t ≤ 1073741824) <;> cases decide (i > 0 → ahead < t) <;> cases way how x1 y1 x2 y2 <;> rfl
theorem r5_Right_l0 (l : List S34) (hl : (l.length : Int) < 140737488355328) : ∀ (d k : Nat) (i : Int), 0 ≤ i → i + d = (l.length : Int) → 2 * d + 1 ≤ k → mutoscoperef5_Right.l0 k l i = some (krt l d i) := by
  intro d
  induction d with
  | zero =>
    intro k i h0 hi hk
    obtain ⟨k, rfl⟩ : ∃ m, k = m + 1 := ⟨k - 1, by omega⟩
    simp only [mutoscoperef5_Right.l0, krt]; rw [if_neg (by omega)]
  | succ d ih =>
    intro k i h0 hi hk
    obtain ⟨k, rfl⟩ : ∃ m, k = m + 1 := ⟨k - 1, by omega⟩
    simp only [mutoscoperef5_Right.l0, krt]
    have hj : ∀ b : Bool, mutoscoperef5_Right.j1 k l i b = if b = true then some false else some (krt l d (i + 1)) := fun b => by
      obtain ⟨k, rfl⟩ : ∃ m, k = m + 1 := ⟨k - 1, by omega⟩
      simp only [mutoscoperef5_Right.j1]
      rw [w64 (x := i + 1) (by omega) (by omega), ih k (i + 1) (by omega) (by omega) (by omega)]
    rw [if_pos (by omega), if_pos h0, r5_Moves_eq]
    simp only [Option.bind_some, hj]
    have e : mutoscoperef5_within.f (rd_T34 l i).f1 (-67108864) 67108864 = some (decide (-67108864 ≤ (rd_T34 l i).f1) && decide ((rd_T34 l i).f1 ≤ 67108864)) := by
      unfold mutoscoperef5_within.f
      by_cases c : (rd_T34 l i).f1 ≥ -67108864
      · rw [if_pos c, decide_eq_true (show -67108864 ≤ (rd_T34 l i).f1 by omega)]; rfl
      · rw [if_neg c, decide_eq_false (show ¬ -67108864 ≤ (rd_T34 l i).f1 by omega)]; rfl
    rw [e]
    unfold kok
    rw [stp_0 i]
    simp only [Option.bind_some]
    cases stp 0 0 (rd_T34 l i).f0 (rd_T34 l i).f2 (rd_T34 l i).f3.f0 (rd_T34 l i).f3.f1 (rd_T34 l i).f3.f2 (rd_T34 l i).f3.f3
    · rw [if_neg (by decide)]; rfl
    · rw [if_pos rfl, Bool.true_and]
      cases (decide (-67108864 ≤ (rd_T34 l i).f1) && decide ((rd_T34 l i).f1 ≤ 67108864))
      · rw [if_neg (by decide), Bool.and_false]; rfl
      · rw [if_pos rfl, Bool.and_true]
        by_cases c : i > 0
        · rw [if_pos c, w64 (x := i - 1) (by omega) (by omega), if_pos (by omega), if_pos (by omega)]
          by_cases c2 : (rd_T34 l (i - 1)).f0 ≥ (rd_T34 l i).f0
          · rw [decide_eq_true c2, if_pos rfl, decide_eq_false (show ¬ (i > 0 → (rd_T34 l (i - 1)).f0 < (rd_T34 l i).f0) from fun h => by have := h c; omega)]; rfl
          · rw [decide_eq_false c2, if_neg (by decide), decide_eq_true (show (i > 0 → (rd_T34 l (i - 1)).f0 < (rd_T34 l i).f0) from fun _ => by omega)]; rfl
        · rw [if_neg c, decide_eq_true (show (i > 0 → (rd_T34 l (i - 1)).f0 < (rd_T34 l i).f0) from fun h => absurd h c)]; rfl
theorem r5_Right_eq (l : List S34) (hl : (l.length : Int) < 140737488355328) {k : Nat} (hk : 2 * l.length + 2 ≤ k) : mutoscoperef5_Right.f k l = some (krt l l.length 0) := by
  unfold mutoscoperef5_Right.f
  exact r5_Right_l0 l hl l.length k 0 (by omega) (by omega) (by omega)
end Go.Proofs.Ytejnbjclcdmopaa.PA
end

section
set_option linter.unusedVariables false
namespace Go.Proofs.Ytejnbjclcdmopaa.PA
open Go.RowKit Go.Proofs.YtejnbjclcdmopaaW.PrintWords Go.Proofs.YtejnbjclcdmopaaW.PrintLast Go.Proofs.YtejnbjclcdmopaaW.PrintMore Go.Proofs.Ytejnbjclcdmopaa.MB
theorem known5 {k : Nat} (hk : 24 ≤ k) : mutoscopelaw5_known.f k = some true := by
  unfold mutoscopelaw5_known.f
  simp only [Option.bind_some]
  have h2 : (([(⟨0, 0, 1, (⟨0, 0, 0, 0⟩ : S23)⟩ : S34), (⟨10, 10, 0, (⟨0, 0, 0, 0⟩ : S23)⟩ : S34)] : List (S34)).length : Int) < 140737488355328 := by decide
  have h2' : (([(⟨1, 0, 0, (⟨0, 0, 0, 0⟩ : S23)⟩ : S34), (⟨1, 0, 0, (⟨0, 0, 0, 0⟩ : S23)⟩ : S34)] : List (S34)).length : Int) < 140737488355328 := by decide
  rw [key_At_eq _ _ _ h2 hk, key_At_eq _ _ _ (by decide) (show ([] : List S34).length + 22 ≤ k from by simpa using (by omega : 22 ≤ k)), key_Find_eq _ _ h2 (show 3 ≤ k by omega), key_Find_eq _ _ h2 (show 3 ≤ k by omega), key_Right_eq _ h2 (show 4 ≤ k by omega), key_Right_eq _ h2' (show 4 ≤ k by omega)]
  simp only [Option.bind_some]
  rw [if_pos (by decide +kernel), if_pos (by decide +kernel), if_pos (by decide +kernel), if_pos (by decide +kernel), if_pos (by decide +kernel)]
  decide +kernel
theorem same5 (l : List S34) (t none : Int) (hl : (l.length : Int) < 140737488355328) {k : Nat} (hk : 2 * l.length + 22 ≤ k) : mutoscopelaw5_same.f k l t none = some true := by
  unfold mutoscopelaw5_same.f
  rw [key_Right_eq l hl (by omega), r5_Right_eq l hl (by omega)]
  simp only [Option.bind_some]
  rw [if_pos (by simp), key_Find_eq l t hl (by omega), r5_Find_eq l t hl (by omega)]
  simp only [Option.bind_some, if_true]
  rw [key_At_eq l t none hl (by omega), r5_At_eq l t none hl (by omega)]
  simp
end Go.Proofs.Ytejnbjclcdmopaa.PA
end

section
set_option linter.unusedVariables false
namespace Go.Proofs.Ytejnbjclcdmopaa.PA
open Go.RowKit Go.Proofs.YtejnbjclcdmopaaW.PrintWords Go.Proofs.YtejnbjclcdmopaaW.PrintLast Go.Proofs.YtejnbjclcdmopaaW.PrintMore Go.Proofs.Ytejnbjclcdmopaa.MB
def kg (x : S34) : Prop := (-67108864 < x.f1 ∧ x.f1 < 67108864) ∧ (0 ≤ x.f2 ∧ x.f2 ≤ 2)
structure Ris (r : List S34) (at_ : Int) : Prop where
  good : ∀ j : Nat, j < r.length → kg (r.getD j z34) ∧ -5 < (r.getD j z34).f0 ∧ (r.getD j z34).f0 ≤ at_
  rise : ∀ i j : Nat, i < j → j < r.length → (r.getD i z34).f0 < (r.getD j z34).f0
  top : at_ ≤ 8 * (r.length : Int) - 5
  low : -5 ≤ at_
theorem Ris.snoc {r : List S34} {at_ : Int} (h : Ris r at_) (x : S34) (hx : kg x) (h1 : at_ < x.f0) (h2 : x.f0 ≤ at_ + 8) : Ris (r ++ [x]) x.f0 := by
  have hl := h.low
  have ht := h.top
  have g1 : ∀ j : Nat, j < r.length → (r ++ [x]).getD j z34 = r.getD j z34 := fun j hj => by
    simp [List.getD, List.getElem?_append_left hj]
  have g2 : (r ++ [x]).getD r.length z34 = x := by simp [List.getD]
  refine ⟨fun j hj => ?_, fun i j hij hj => ?_, by simp only [List.length_append, List.length_singleton]; omega, by omega⟩
  · rw [List.length_append, List.length_singleton] at hj
    by_cases c : j < r.length
    · rw [g1 j c]; have := h.good j c; exact ⟨this.1, this.2.1, by omega⟩
    · rw [show j = r.length by omega, g2]; exact ⟨hx, by omega, Int.le_refl _⟩
  · rw [List.length_append, List.length_singleton] at hj
    by_cases c : j < r.length
    · rw [g1 j c, g1 i (by omega)]; exact h.rise i j hij c
    · rw [show j = r.length by omega, g2, g1 i (by omega)]; have := (h.good i (by omega)).2.2; omega
theorem and2 (a : Int) : bits .and .i64 a 3 = a % 4 := and_low .i64 2 (by decide) (fun n h h' => by rw [IntKind.wrap_i64]; omega) a
theorem and3 (a : Int) : bits .and .i64 a 7 = a % 8 := and_low .i64 3 (by decide) (fun n h h' => by rw [IntKind.wrap_i64]; omega) a
theorem rising_l0 (l : List S34) : ∀ (d : Nat) (r : List S34) (at_ i : Int), 0 ≤ i → i = (r.length : Int) → i + d = 40 → Ris r at_ →
    ∃ r' at', Evt (fun k => mutoscopelaw5_rising.l0 k l r at_ i = some r') ∧ r'.length ≤ 40 ∧ Ris r' at' := by
  intro d
  induction d with
  | zero =>
    intro r at_ i h0 hi hd hr
    refine ⟨r, at_, ((Evt.all (p := fun _ => True) fun _ => trivial).succ (q := fun k => mutoscopelaw5_rising.j1 k l r at_ i false = some r) fun k _ => by simp [mutoscopelaw5_rising.j1]).succ fun k h => ?_, by omega, hr⟩
    simp only [mutoscopelaw5_rising.l0]
    split
    · rw [decide_eq_false (by omega)]; exact h
    · exact h
  | succ d ih =>
    intro r at_ i h0 hi hd hr
    by_cases c : i < (l.length : Int)
    · have hm : -67108864 < Int.tmod (rd_T34 l i).f1 67108864 ∧ Int.tmod (rd_T34 l i).f1 67108864 < 67108864 :=
        ⟨by have := Int.lt_tmod_of_pos (rd_T34 l i).f1 (show (0 : Int) < 67108864 by decide); omega, Int.tmod_lt_of_pos _ (by decide)⟩
      have hlo := hr.low
      have hto := hr.top
      have ht : wrap64 ((wrap64 (at_ + 1)) + (Go.bits .and .i64 ((rd_T34 l i).f0) 7)) = at_ + 1 + (rd_T34 l i).f0 % 8 := by
        rw [and3, w64 (x := at_ + 1) (by omega) (by omega), w64 (by omega) (by omega)]
      have step : ∀ e : S23, kg (⟨wrap64 ((wrap64 (at_ + 1)) + (Go.bits .and .i64 ((rd_T34 l i).f0) 7)), Int.tmod ((rd_T34 l i).f1) 67108864, Int.tmod (Go.bits .and .i64 (Int.tmod ((rd_T34 l i).f1) 67108864) 3) 3, e⟩ : S34) := by
        intro e
        refine ⟨hm, ?_⟩
        show 0 ≤ Int.tmod (Go.bits .and .i64 (Int.tmod ((rd_T34 l i).f1) 67108864) 3) 3 ∧ Int.tmod (Go.bits .and .i64 (Int.tmod ((rd_T34 l i).f1) 67108864) 3) 3 ≤ (2 : Int)
        rw [and2, Int.tmod_eq_emod_of_nonneg (by omega)]; omega
      have nxt : ∀ e : S23, ∃ r' at', Evt (fun k => mutoscopelaw5_rising.l0 k l (r ++ [(⟨wrap64 ((wrap64 (at_ + 1)) + (Go.bits .and .i64 ((rd_T34 l i).f0) 7)), Int.tmod ((rd_T34 l i).f1) 67108864, Int.tmod (Go.bits .and .i64 (Int.tmod ((rd_T34 l i).f1) 67108864) 3) 3, e⟩ : S34)]) (wrap64 ((wrap64 (at_ + 1)) + (Go.bits .and .i64 ((rd_T34 l i).f0) 7))) (wrap64 (i + 1)) = some r') ∧ r'.length ≤ 40 ∧ Ris r' at' := by
        intro e
        have hs := hr.snoc _ (step e) (by show at_ < wrap64 _; rw [ht]; omega) (by show wrap64 _ ≤ at_ + 8; rw [ht]; omega)
        exact ih _ _ _ (by rw [w64 (by omega) (by omega)]; omega) (by rw [w64 (by omega) (by omega), List.length_append, List.length_singleton]; omega) (by rw [w64 (by omega) (by omega)]; omega) hs
      by_cases c2 : Int.tmod (Go.bits .and .i64 (Int.tmod ((rd_T34 l i).f1) 67108864) 3) 3 = 2
      · obtain ⟨r', at', he, hl', hr'⟩ := nxt (⟨Go.bits .and .i64 ((rd_T34 l i).f3.f0) 65535, Int.tmod ((rd_T34 l i).f3.f1) 65536, Go.bits .and .i64 ((rd_T34 l i).f3.f2) 65535, Int.tmod ((rd_T34 l i).f3.f3) 65536⟩ : S23)
        refine ⟨r', at', (he.succ (q := fun k => mutoscopelaw5_rising.j1 k l r at_ i true = some r') fun k h => ?_).succ fun k h => ?_, hl', hr'⟩
        · simp only [mutoscopelaw5_rising.j1]
          rw [if_pos trivial, if_pos h0, if_pos c, if_pos c2, if_pos (by omega)]; exact h
        · simp only [mutoscopelaw5_rising.l0]
          rw [if_pos c, decide_eq_true (show i < 40 by omega)]; exact h
      · obtain ⟨r', at', he, hl', hr'⟩ := nxt (⟨0, 0, 0, 0⟩ : S23)
        refine ⟨r', at', (he.succ (q := fun k => mutoscopelaw5_rising.j1 k l r at_ i true = some r') fun k h => ?_).succ fun k h => ?_, hl', hr'⟩
        · simp only [mutoscopelaw5_rising.j1]
          rw [if_pos trivial, if_pos h0, if_pos c, if_neg c2, if_pos (by omega)]; exact h
        · simp only [mutoscopelaw5_rising.l0]
          rw [if_pos c, decide_eq_true (show i < 40 by omega)]; exact h
    · refine ⟨r, at_, ((Evt.all (p := fun _ => True) fun _ => trivial).succ (q := fun k => mutoscopelaw5_rising.j1 k l r at_ i false = some r) fun k _ => by simp [mutoscopelaw5_rising.j1]).succ fun k h => ?_, by omega, hr⟩
      simp only [mutoscopelaw5_rising.l0]
      rw [if_neg c]; exact h
theorem rising_eq (l : List S34) : ∃ r at_, Evt (fun k => mutoscopelaw5_rising.f k l = some r) ∧ r.length ≤ 40 ∧ Ris r at_ := by
  obtain ⟨r, at_, h⟩ := rising_l0 l 40 [] (-5) 0 (by omega) (by simp) (by omega) ⟨fun j hj => by simp at hj, fun i j _ hj => by simp at hj, by simp, by omega⟩
  exact ⟨r, at_, h⟩
end Go.Proofs.Ytejnbjclcdmopaa.PA
end

section
set_option linter.unusedVariables false
namespace Go.Proofs.Ytejnbjclcdmopaa.Pure
open Go.RowKit Go.Proofs.Ytejnbjclcdmopaa.PA Go.Proofs.YtejnbjclcdmopaaW.PrintWords Go.Proofs.YtejnbjclcdmopaaW.PrintLast Go.Proofs.YtejnbjclcdmopaaW.PrintMore Go.Proofs.Ytejnbjclcdmopaa.MB
theorem KeyTells : mutoscopelaw5_KeyTells.Pure := by
  intro l a1 a2 a3 e0 e1 e2 e3 a5 _ _ _ _ _ _
  by_cases c : (l.length : Int) > 40
  · obtain ⟨r, at_, he, hr, _⟩ := rising_eq (l.take 40)
    obtain ⟨n, hn⟩ := he
    refine ⟨n + 300, ?_⟩
    have ht : (l.take 40).length ≤ 40 := List.length_take_le _ _
    unfold mutoscopelaw5_KeyTells.f
    rw [if_pos c, if_pos (by omega)]
    simp only [Option.bind_some, hn (n + 300) (by omega), same5 r _ _ (by omega) (show 2 * r.length + 22 ≤ n + 300 by omega), same5 (l.take 40) _ _ (by omega) (show 2 * (l.take 40).length + 22 ≤ n + 300 by omega), if_true, key_Goes_eq (show 19 ≤ n + 300 by omega), r5_Goes_eq (show 22 ≤ n + 300 by omega), known5 (show 24 ≤ n + 300 by omega)]
  · obtain ⟨r, at_, he, hr, _⟩ := rising_eq l
    obtain ⟨n, hn⟩ := he
    refine ⟨n + 300, ?_⟩
    unfold mutoscopelaw5_KeyTells.f
    rw [if_neg c]
    simp only [Option.bind_some, hn (n + 300) (by omega), same5 r _ _ (by omega) (show 2 * r.length + 22 ≤ n + 300 by omega), same5 l _ _ (by omega) (show 2 * l.length + 22 ≤ n + 300 by omega), if_true, key_Goes_eq (show 19 ≤ n + 300 by omega), r5_Goes_eq (show 22 ≤ n + 300 by omega), known5 (show 24 ≤ n + 300 by omega)]
end Go.Proofs.Ytejnbjclcdmopaa.Pure
end

section
set_option linter.unusedVariables false
namespace Go.Proofs.Ytejnbjclcdmopaa.MO
open Go.RowKit Go.ChangeShapes Go.WideShapes Go.Deep Go.Proofs.YtejnbjclcdmopaaW.PrintWords
def Opn {α : Type} (P : Program) (t : TypeId) (d : Kd α) (g : α → Prop) : Prop :=
  ∀ {H : Type} {enc : TypeId × Value → H} {w : World} {base : Nat} {spare : Nat → Bool} {held : Bool} (n : Nat) (cs : List Value) (x : DataW H × List MemPlace),
    DataW.trod enc P w base spare held n t cs = some x → ∃ a : α, d.K w a cs ∧ g a
theorem opn_int {P : Program} {t : TypeId} {k : IntKind} (ht : P.underlying t = some (.int k)) : Opn P t (Kd.int k) fun a => (Lit.int k a).wf = true := by
  intro H enc w base spare held n cs x h
  obtain ⟨z, rfl, _, hw⟩ := DataW.trod_int ht h
  exact ⟨z, rfl, hw⟩
theorem opn_iso {α β : Type} {P : Program} {t : TypeId} {d : Kd α} {g : α → Prop} (h : Opn P t d g) (f : β → α) (mk : α → β) (hf : ∀ a, f (mk a) = a) (g' : β → Prop) (hg : ∀ a, g a → g' (mk a)) : Opn P t (Kd.iso d f) g' := by
  intro H enc w base spare held n cs x hx
  obtain ⟨a, ha, hga⟩ := h n cs x hx
  exact ⟨mk a, by show d.K w (f (mk a)) cs; rw [hf]; exact ha, hg a hga⟩
theorem opn_slice {α : Type} {P : Program} {t e : TypeId} {d : Kd α} {g : α → Prop} (ht : P.underlying t = some (.slice e)) (hs : P.cellsOf e = d.sz) (h : Opn P e d g) :
    Opn P t (Kd.slice e d) fun l => l.length ≤ maxLen ∧ ∀ a, a ∈ l → g a := by
  intro H enc w base spare held n cs x hx
  rcases open_slice ht hx with ⟨rfl, _⟩ | ⟨a, len, cap, m, n', D, Pl, rfl, hb, hl, hm, hmm, _, hi⟩
  · exact ⟨[], ⟨none, 0, rfl, Nat.le_refl _, rfl, by simp, fun h => absurd h (by simp)⟩, Nat.zero_le _, fun a h => by simp at h⟩
  · have hlm : len ≤ m := by rw [hmm]; split <;> omega
    have each : ∀ i, i < len → ∃ (p : α) (c : List Value), c.length = d.sz ∧ d.K w p c ∧ g p ∧ ∀ j u, c[j]? = some u → w.cell? (a.add (i * d.sz + j)) = some u := by
      intro i hil
      obtain ⟨cs', hc, htr⟩ := hi i (by omega)
      obtain ⟨p, hp, hgp⟩ := h n' cs' _ htr
      rw [hs] at hc
      obtain ⟨_, hcl, hat⟩ := World.cells?_some hc
      refine ⟨p, cs', hcl, hp, hgp, fun j u hu => ?_⟩
      have hj : j < cs'.length := (List.getElem?_eq_some_iff.1 hu).1
      rw [← Go.Deep.add_add]
      have := hat j (by omega)
      rw [this, hu]
    have all : ∀ q, q ≤ len → ∃ l : List α, l.length = q ∧ (∀ p, p ∈ l → g p) ∧ ∀ j p, l[j]? = some p → ∃ c : List Value, c.length = d.sz ∧ d.K w p c ∧ ∀ i u, c[i]? = some u → w.cell? (a.add (j * d.sz + i)) = some u := by
      intro q
      induction q with
      | zero => intro _; exact ⟨[], rfl, fun p hp => by simp at hp, fun j p hp => by simp at hp⟩
      | succ q ih =>
        intro hq
        obtain ⟨l, hlen, hg, hl'⟩ := ih (by omega)
        obtain ⟨p, c, h1, h2, h3, h4⟩ := each q (by omega)
        refine ⟨l ++ [p], by simp [hlen], fun p' hp' => ?_, fun j p' hp' => ?_⟩
        · rcases List.mem_append.1 hp' with h' | h'
          · exact hg p' h'
          · rw [List.mem_singleton.1 h']; exact h3
        · by_cases hj : j < l.length
          · rw [List.getElem?_append_left hj] at hp'
            exact hl' j p' hp'
          · rw [List.getElem?_append_right (by omega)] at hp'
            have hj0 : j - l.length = 0 := by
              have := (List.getElem?_eq_some_iff.1 hp').1
              simp at this; omega
            rw [hj0] at hp'
            obtain rfl : p = p' := by simpa using hp'
            obtain rfl : j = q := by omega
            exact ⟨c, h1, h2, h4⟩
    obtain ⟨l, hlen, hg, hl'⟩ := all len (Nat.le_refl _)
    have hmx : cap ≤ 9223372036854775807 := by simpa [maxLen] using hm
    subst hlen
    exact ⟨l, ⟨some a, cap, rfl, hl, rfl, by omega, fun _ => ⟨a, rfl, hl'⟩⟩, Nat.le_trans hl hm, hg⟩
def OpnF {β : Type} (P : Program) (fs : List Field) (off : Nat) (d : Kd β) (g : β → Prop) : Prop :=
  ∀ {H : Type} {enc : TypeId × Value → H} {w : World} {base : Nat} {spare : Nat → Bool} {held : Bool} (n : Nat) (cs : List Value), cs.length = off + d.sz →
    (∀ f, f ∈ fs → ∃ x : DataW H × List MemPlace, DataW.trod enc P w base spare held n f.type ((cs.drop f.offset).take (P.cellsOf f.type)) = some x) → ∃ b : β, d.K w b (cs.drop off) ∧ g b
theorem opnF_one {α : Type} {P : Program} {f : Field} {off : Nat} {d : Kd α} {g : α → Prop} (ho : f.offset = off) (hs : P.cellsOf f.type = d.sz) (h : Opn P f.type d g) : OpnF P [f] off d g := by
  intro H enc w base spare held n cs hl hf
  obtain ⟨x, hx⟩ := hf f (by simp)
  rw [ho, hs, List.take_of_length_le (by rw [List.length_drop]; omega)] at hx
  exact h n _ x hx
theorem opnF_cons {α β : Type} {P : Program} {f : Field} {fs : List Field} {off : Nat} {d : Kd α} {e : Kd β} {g : α → Prop} {g' : β → Prop} (ho : f.offset = off) (hs : P.cellsOf f.type = d.sz) (h : Opn P f.type d g)
    (ht : OpnF P fs (off + d.sz) e g') : OpnF P (f :: fs) off (Kd.pair d e) fun x => g x.1 ∧ g' x.2 := by
  intro H enc w base spare held n cs hl hf
  have hl' : cs.length = off + (d.sz + e.sz) := hl
  obtain ⟨x, hx⟩ := hf f (by simp)
  rw [ho, hs] at hx
  obtain ⟨a, ha, hga⟩ := h n _ x hx
  obtain ⟨b, hb, hgb⟩ := ht (H := H) (enc := enc) (w := w) (base := base) (spare := spare) (held := held) n cs (by omega) (fun f' hf' => hf f' (List.mem_cons_of_mem _ hf'))
  exact ⟨(a, b), ⟨_, _, by rw [← List.drop_drop]; exact (List.take_append_drop d.sz (cs.drop off)).symm, ha, hb⟩, hga, hgb⟩
theorem opn_struct {β : Type} {P : Program} {t : TypeId} {fs : Array Field} {d : Kd β} {g : β → Prop} (ht : P.underlying t = some (.struct fs)) (hs : P.cellsOf t = d.sz) (h : OpnF P fs.toList 0 d g) : Opn P t d g := by
  intro H enc w base spare held n cs x hx
  obtain ⟨xs, n', _, _, hl, hxl, hf⟩ := DataW.trod_struct ht hx
  obtain ⟨b, hb, hg⟩ := h (H := H) (enc := enc) (w := w) (base := base) (spare := spare) (held := held) n' cs (by omega) (fun f hf' => by
    obtain ⟨i, hi, rfl⟩ := List.mem_iff_getElem.1 hf'
    have hi' : i < fs.size := by simpa using hi
    have := hf i fs[i] (by simp [hi'])
    rw [List.getElem?_eq_getElem (by omega)] at this
    exact ⟨_, by simpa using this⟩)
  exact ⟨b, by simpa using hb, hg⟩
end Go.Proofs.Ytejnbjclcdmopaa.MO
end
