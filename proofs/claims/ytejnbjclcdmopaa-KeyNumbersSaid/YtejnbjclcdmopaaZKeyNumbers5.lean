/- Lines of 10 texts of this seat, merged by wip/shake.py (a program of this session): what the statement's proof does not use is left out. -/
import Derived.Test.YtejnbjclcdmopaaZKeyNumbers4

section
namespace Go.Proofs.Ytejnbjclcdmopaa.PA
open Go.RowKit Go.Proofs.YtejnbjclcdmopaaW.PrintWords Go.Proofs.YtejnbjclcdmopaaW.PrintLast Go.Proofs.YtejnbjclcdmopaaW.PrintMore
attribute [local go_sem] max2_int min2_int max_two min_two max_three min_three max_four min_four
attribute [local go_sem] Go.Proofs.Ytejnbjclcdmopaa.MS.isSome_setCell
set_option linter.unusedVariables false
set_option linter.unusedSimpArgs false
def mutoscopelaw5_same.f (k : Nat) (l0 : List (S34)) (a1 : Int) (a2 : Int) : Option (Bool) := (key_Right.f k l0).bind fun t443 => ((mutoscoperef5_Right.f k l0).bind fun t444 => (if (t443 == t444) = true then ((key_Find.f k l0 a1).bind fun t445 => ((mutoscoperef5_Find.f k l0 a1).bind fun t446 => (if t445 = t446 then ((key_At.f k l0 a1 a2).bind fun t447 => ((mutoscoperef5_At.f k l0 a1 a2).bind fun t448 => (some (t447 == t448)))) else (some false)))) else (some false)))
set_option maxHeartbeats 8000000 in
set_option maxRecDepth 100000 in
theorem mutoscopelaw5_same.calls (k : Nat) (A0 : Option Addr) (c0 : Nat) (l0 : List (S34)) (a1 : Int) (a2 : Int) (r : Bool) (w : World) (hr0 : Kd.C k34 w A0 l0.length l0) (hc0 : l0.length ≤ c0) (h : mutoscopelaw5_same.f k l0 a1 a2 = some r) :
  Calls Try.prog 26 #[.slice A0 l0.length c0, .int .i64 a1, .int .i64 a2] w fun e w' => e = .returned (.bool r) ∧ Below w.heap.size w w' := by
 have HR0 := Aside0.mk hr0
 have HC0 := Aside0.mk hc0
 clear hr0 hc0
 have HB := Aside0.mk (Below.refl w.heap.size w)
 have H : ((key_Right.f k l0).bind fun t443 => ((mutoscoperef5_Right.f k l0).bind fun t444 => (if (t443 == t444) = true then ((key_Find.f k l0 a1).bind fun t445 => ((mutoscoperef5_Find.f k l0 a1).bind fun t446 => (if t445 = t446 then ((key_At.f k l0 a1 a2).bind fun t447 => ((mutoscoperef5_At.f k l0 a1 a2).bind fun t448 => (some (t447 == t448)))) else (some false)))) else (some false)))) = some r := h
 clear h
 replace H := Option.bind_eq_some_iff.mp H
 obtain ⟨t443, A40, H⟩ := H
 replace H : ((mutoscoperef5_Right.f k l0).bind fun t444 => (if (t443 == t444) = true then ((key_Find.f k l0 a1).bind fun t445 => ((mutoscoperef5_Find.f k l0 a1).bind fun t446 => (if t445 = t446 then ((key_At.f k l0 a1 a2).bind fun t447 => ((mutoscoperef5_At.f k l0 a1 a2).bind fun t448 => (some (t447 == t448)))) else (some false)))) else (some false))) = some r := H
 have A4 := Aside0.mk A40
 clear A40
 replace H := Option.bind_eq_some_iff.mp H
 obtain ⟨t444, A50, H⟩ := H
 replace H : (if (t443 == t444) = true then ((key_Find.f k l0 a1).bind fun t445 => ((mutoscoperef5_Find.f k l0 a1).bind fun t446 => (if t445 = t446 then ((key_At.f k l0 a1 a2).bind fun t447 => ((mutoscoperef5_At.f k l0 a1 a2).bind fun t448 => (some (t447 == t448)))) else (some false)))) else (some false)) = some r := H
 have A5 := Aside0.mk A50
 clear A50
 by_cases c6 : (t443 == t444) = true
 ·rw [if_pos c6] at H
  have c6b0 : (t443 == t444) = true := c6
  (try (have c6b1 : decide (t443 = t444) = true := by simpa using c6))
  (try (have c6b2 : (t443 == t444) = true := by simpa using c6))
  clear c6
  replace H := Option.bind_eq_some_iff.mp H
  obtain ⟨t445, A70, H⟩ := H
  replace H : ((mutoscoperef5_Find.f k l0 a1).bind fun t446 => (if t445 = t446 then ((key_At.f k l0 a1 a2).bind fun t447 => ((mutoscoperef5_At.f k l0 a1 a2).bind fun t448 => (some (t447 == t448)))) else (some false))) = some r := H
  have A7 := Aside0.mk A70
  clear A70
  replace H := Option.bind_eq_some_iff.mp H
  obtain ⟨t446, A80, H⟩ := H
  replace H : (if t445 = t446 then ((key_At.f k l0 a1 a2).bind fun t447 => ((mutoscoperef5_At.f k l0 a1 a2).bind fun t448 => (some (t447 == t448)))) else (some false)) = some r := H
  have A8 := Aside0.mk A80
  clear A80
  by_cases c9 : t445 = t446
  ·rw [if_pos c9] at H
   have c9b0 : (t445 == t446) = true := beq_iff_eq.mpr c9
   have c9b1 : (t445 != t446) = false := bne_eq_false_iff_eq.mpr c9
   clear c9
   replace H := Option.bind_eq_some_iff.mp H
   obtain ⟨t447, A100, H⟩ := H
   replace H : ((mutoscoperef5_At.f k l0 a1 a2).bind fun t448 => (some (t447 == t448))) = some r := H
   have A10 := Aside0.mk A100
   clear A100
   replace H := Option.bind_eq_some_iff.mp H
   obtain ⟨t448, A110, H⟩ := H
   replace H : (some (t447 == t448)) = some r := H
   have A11 := Aside0.mk A110
   clear A110
   obtain rfl := Option.some.inj H
   go_enter Try.func26, Try.ntmps26
   go_wp2_with (first | ((with_reducible refine gate_callee (f := 22) rfl ?_); refine goesL_ (some 8) rfl rfl Try.func22 (by kernel_rfl) rfl #[.slice A0 l0.length c0] rfl (by (try simp only [List.map_toArray, List.map_cons, List.map_nil]); first | done | rfl | (simp only [List.length_drop, List.length_take]; rfl)) ?_; (with_reducible refine (key_Right.calls k _ _ l0 t443 _ ?side1 ?side2 A4.out).mono ?_); (case side1 => repeat (first | exact HR0.out | (with_reducible refine Kd.C_alloc ?_ _) | (with_reducible refine Kd.C_drewN ?_ _) | (with_reducible refine Kd.C_drew ?_))); (case side2 => exact HC0.out); rintro e w12 ⟨rfl, hb⟩; refine ⟨_, rfl, ?_⟩; have n0_ := Aside0.mk (below_step (by repeat (first | (with_reducible first | exact HB.out | apply below_alloc | apply pw_below_drewN | apply below_drew1) | exact HB.out)) hb); clear HB; have HB := n0_; clear n0_; (try clear hb); (try clear hb2); (try clear hk); (try clear hi)) | ((with_reducible refine gate_callee (f := 41) rfl ?_); refine goesL_ (some 10) rfl rfl Try.func41 (by kernel_rfl) rfl #[.slice A0 l0.length c0] rfl (by (try simp only [List.map_toArray, List.map_cons, List.map_nil]); first | done | rfl | (simp only [List.length_drop, List.length_take]; rfl)) ?_; (with_reducible refine (mutoscoperef5_Right.calls k _ _ l0 t444 _ ?side1 ?side2 A5.out).mono ?_); (case side1 => repeat (first | exact (Kd.C_below HR0.out HB.out) | (with_reducible refine Kd.C_alloc ?_ _) | (with_reducible refine Kd.C_drewN ?_ _) | (with_reducible refine Kd.C_drew ?_))); (case side2 => exact HC0.out); rintro e w13 ⟨rfl, hb⟩; refine ⟨_, rfl, ?_⟩; have n0_ := Aside0.mk (below_step (by repeat (first | (with_reducible first | exact HB.out | apply below_alloc | apply pw_below_drewN | apply below_drew1) | exact HB.out)) hb); clear HB; have HB := n0_; clear n0_; (try clear hb); (try clear hb2); (try clear hk); (try clear hi)) | (go_at_call 19; (with_reducible refine (key_Find.calls k _ _ l0 a1 t445 _ ?side1 ?side2 A7.out).mono ?_); (case side1 => repeat (first | exact (Kd.C_below HR0.out HB.out) | (with_reducible refine Kd.C_alloc ?_ _) | (with_reducible refine Kd.C_drewN ?_ _) | (with_reducible refine Kd.C_drew ?_))); (case side2 => exact HC0.out); rintro e w' ⟨rfl, ⟨nd, rfl⟩⟩) | (go_at_call 42; (with_reducible refine (mutoscoperef5_Find.calls k _ _ l0 a1 t446 _ ?side1 ?side2 A8.out).mono ?_); (case side1 => repeat (first | exact (Kd.C_below HR0.out (by repeat (first | (with_reducible first | exact HB.out | apply below_alloc | apply pw_below_drewN | apply below_drew1) | exact HB.out))) | (with_reducible refine Kd.C_alloc ?_ _) | (with_reducible refine Kd.C_drewN ?_ _) | (with_reducible refine Kd.C_drew ?_))); (case side2 => exact HC0.out); rintro e w' ⟨rfl, ⟨nd, rfl⟩⟩) | (go_at_call 18; (with_reducible refine (key_At.calls k _ _ l0 a1 a2 t447 _ ?side1 ?side2 A10.out).mono ?_); (case side1 => repeat (first | exact (Kd.C_below HR0.out (by repeat (first | (with_reducible first | exact HB.out | apply below_alloc | apply pw_below_drewN | apply below_drew1) | exact HB.out))) | (with_reducible refine Kd.C_alloc ?_ _) | (with_reducible refine Kd.C_drewN ?_ _) | (with_reducible refine Kd.C_drew ?_))); (case side2 => exact HC0.out); rintro e w14 ⟨rfl, hb⟩; have n0_ := Aside0.mk (below_step (by repeat (first | (with_reducible first | exact HB.out | apply below_alloc | apply pw_below_drewN | apply below_drew1) | exact HB.out)) hb); clear HB; have HB := n0_; clear n0_; (try clear hb); (try clear hb2); (try clear hk); (try clear hi)) | (go_at_call 43; (with_reducible refine (mutoscoperef5_At.calls k _ _ l0 a1 a2 t448 _ ?side1 ?side2 A11.out).mono ?_); (case side1 => repeat (first | exact (Kd.C_below HR0.out HB.out) | (with_reducible refine Kd.C_alloc ?_ _) | (with_reducible refine Kd.C_drewN ?_ _) | (with_reducible refine Kd.C_drew ?_))); (case side2 => exact HC0.out); rintro e w15 ⟨rfl, hb⟩; have n0_ := Aside0.mk (below_step (by repeat (first | (with_reducible first | exact HB.out | apply below_alloc | apply pw_below_drewN | apply below_drew1) | exact HB.out)) hb); clear HB; have HB := n0_; clear n0_; (try clear hb); (try clear hb2); (try clear hk); (try clear hi)))
   go_ret
   exact ⟨by first | rfl | (simp [errW_none, errW_some] <;> rfl) | (simp [*, errW_none, errW_some] <;> rfl), by repeat (first | (with_reducible first | exact HB.out | apply below_alloc | apply pw_below_drewN | apply below_drew1) | exact HB.out)⟩
  ·rw [if_neg c9] at H
   have c9b0 : (t445 == t446) = false := beq_eq_false_iff_ne.mpr c9
   have c9b1 : (t445 != t446) = true := bne_iff_ne.mpr c9
   obtain rfl := Option.some.inj H
   go_enter Try.func26, Try.ntmps26
   go_wp2_with (first | ((with_reducible refine gate_callee (f := 22) rfl ?_); refine goesL_ (some 8) rfl rfl Try.func22 (by kernel_rfl) rfl #[.slice A0 l0.length c0] rfl (by (try simp only [List.map_toArray, List.map_cons, List.map_nil]); first | done | rfl | (simp only [List.length_drop, List.length_take]; rfl)) ?_; (with_reducible refine (key_Right.calls k _ _ l0 t443 _ ?side1 ?side2 A4.out).mono ?_); (case side1 => repeat (first | exact HR0.out | (with_reducible refine Kd.C_alloc ?_ _) | (with_reducible refine Kd.C_drewN ?_ _) | (with_reducible refine Kd.C_drew ?_))); (case side2 => exact HC0.out); rintro e w16 ⟨rfl, hb⟩; refine ⟨_, rfl, ?_⟩; have n0_ := Aside0.mk (below_step (by repeat (first | (with_reducible first | exact HB.out | apply below_alloc | apply pw_below_drewN | apply below_drew1) | exact HB.out)) hb); clear HB; have HB := n0_; clear n0_; (try clear hb); (try clear hb2); (try clear hk); (try clear hi)) | ((with_reducible refine gate_callee (f := 41) rfl ?_); refine goesL_ (some 10) rfl rfl Try.func41 (by kernel_rfl) rfl #[.slice A0 l0.length c0] rfl (by (try simp only [List.map_toArray, List.map_cons, List.map_nil]); first | done | rfl | (simp only [List.length_drop, List.length_take]; rfl)) ?_; (with_reducible refine (mutoscoperef5_Right.calls k _ _ l0 t444 _ ?side1 ?side2 A5.out).mono ?_); (case side1 => repeat (first | exact (Kd.C_below HR0.out HB.out) | (with_reducible refine Kd.C_alloc ?_ _) | (with_reducible refine Kd.C_drewN ?_ _) | (with_reducible refine Kd.C_drew ?_))); (case side2 => exact HC0.out); rintro e w17 ⟨rfl, hb⟩; refine ⟨_, rfl, ?_⟩; have n0_ := Aside0.mk (below_step (by repeat (first | (with_reducible first | exact HB.out | apply below_alloc | apply pw_below_drewN | apply below_drew1) | exact HB.out)) hb); clear HB; have HB := n0_; clear n0_; (try clear hb); (try clear hb2); (try clear hk); (try clear hi)) | (go_at_call 19; (with_reducible refine (key_Find.calls k _ _ l0 a1 t445 _ ?side1 ?side2 A7.out).mono ?_); (case side1 => repeat (first | exact (Kd.C_below HR0.out HB.out) | (with_reducible refine Kd.C_alloc ?_ _) | (with_reducible refine Kd.C_drewN ?_ _) | (with_reducible refine Kd.C_drew ?_))); (case side2 => exact HC0.out); rintro e w' ⟨rfl, ⟨nd, rfl⟩⟩) | (go_at_call 42; (with_reducible refine (mutoscoperef5_Find.calls k _ _ l0 a1 t446 _ ?side1 ?side2 A8.out).mono ?_); (case side1 => repeat (first | exact (Kd.C_below HR0.out (by repeat (first | (with_reducible first | exact HB.out | apply below_alloc | apply pw_below_drewN | apply below_drew1) | exact HB.out))) | (with_reducible refine Kd.C_alloc ?_ _) | (with_reducible refine Kd.C_drewN ?_ _) | (with_reducible refine Kd.C_drew ?_))); (case side2 => exact HC0.out); rintro e w' ⟨rfl, ⟨nd, rfl⟩⟩))
   go_ret
   exact ⟨by first | rfl | (simp [errW_none, errW_some] <;> rfl) | (simp [*, errW_none, errW_some] <;> rfl), by repeat (first | (with_reducible first | exact HB.out | apply below_alloc | apply pw_below_drewN | apply below_drew1) | exact HB.out)⟩
 ·rw [if_neg c6] at H
  have c6b0 : (t443 == t444) = false := by simpa using c6
  (try (have c6b1 : decide (t443 = t444) = false := by simpa using c6))
  (try (have c6b2 : (t443 == t444) = false := by simpa using c6))
  (try (have c6b3 : ¬ (t443 = t444) := by simpa using c6))
  clear c6
  obtain rfl := Option.some.inj H
  go_enter Try.func26, Try.ntmps26
  go_wp2_with (first | ((with_reducible refine gate_callee (f := 22) rfl ?_); refine goesL_ (some 8) rfl rfl Try.func22 (by kernel_rfl) rfl #[.slice A0 l0.length c0] rfl (by (try simp only [List.map_toArray, List.map_cons, List.map_nil]); first | done | rfl | (simp only [List.length_drop, List.length_take]; rfl)) ?_; (with_reducible refine (key_Right.calls k _ _ l0 t443 _ ?side1 ?side2 A4.out).mono ?_); (case side1 => repeat (first | exact HR0.out | (with_reducible refine Kd.C_alloc ?_ _) | (with_reducible refine Kd.C_drewN ?_ _) | (with_reducible refine Kd.C_drew ?_))); (case side2 => exact HC0.out); rintro e w18 ⟨rfl, hb⟩; refine ⟨_, rfl, ?_⟩; have n0_ := Aside0.mk (below_step (by repeat (first | (with_reducible first | exact HB.out | apply below_alloc | apply pw_below_drewN | apply below_drew1) | exact HB.out)) hb); clear HB; have HB := n0_; clear n0_; (try clear hb); (try clear hb2); (try clear hk); (try clear hi)) | ((with_reducible refine gate_callee (f := 41) rfl ?_); refine goesL_ (some 10) rfl rfl Try.func41 (by kernel_rfl) rfl #[.slice A0 l0.length c0] rfl (by (try simp only [List.map_toArray, List.map_cons, List.map_nil]); first | done | rfl | (simp only [List.length_drop, List.length_take]; rfl)) ?_; (with_reducible refine (mutoscoperef5_Right.calls k _ _ l0 t444 _ ?side1 ?side2 A5.out).mono ?_); (case side1 => repeat (first | exact (Kd.C_below HR0.out HB.out) | (with_reducible refine Kd.C_alloc ?_ _) | (with_reducible refine Kd.C_drewN ?_ _) | (with_reducible refine Kd.C_drew ?_))); (case side2 => exact HC0.out); rintro e w19 ⟨rfl, hb⟩; refine ⟨_, rfl, ?_⟩; have n0_ := Aside0.mk (below_step (by repeat (first | (with_reducible first | exact HB.out | apply below_alloc | apply pw_below_drewN | apply below_drew1) | exact HB.out)) hb); clear HB; have HB := n0_; clear n0_; (try clear hb); (try clear hb2); (try clear hk); (try clear hi)))
  go_ret
  exact ⟨by first | rfl | (simp [errW_none, errW_some] <;> rfl) | (simp [*, errW_none, errW_some] <;> rfl), by repeat (first | (with_reducible first | exact HB.out | apply below_alloc | apply pw_below_drewN | apply below_drew1) | exact HB.out)⟩
end Go.Proofs.Ytejnbjclcdmopaa.PA
end

section
namespace Go.Proofs.Ytejnbjclcdmopaa.PA
open Go.RowKit Go.Proofs.YtejnbjclcdmopaaW.PrintWords Go.Proofs.YtejnbjclcdmopaaW.PrintLast Go.Proofs.YtejnbjclcdmopaaW.PrintMore
attribute [local go_sem] max2_int min2_int max_two min_two max_three min_three max_four min_four
attribute [local go_sem] Go.Proofs.Ytejnbjclcdmopaa.MS.isSome_setCell
set_option linter.unusedVariables false
set_option linter.unusedSimpArgs false
mutual
def mutoscopelaw5_KeyNumbers.l0 : Nat → Int → Option (Bool)
 | 0, _ => none
 | k + 1, x1 => if x1 < 6 then (mutoscopelaw5_KeyNumbers.l1 k x1 (-1)) else ((some (([(⟨1073741824, 0, 0, (⟨0, 0, 0, 0⟩ : S23)⟩ : S34), (⟨1073741825, 0, 0, (⟨0, 0, 0, 0⟩ : S23)⟩ : S34), (⟨(-1073741825), 0, 0, (⟨0, 0, 0, 0⟩ : S23)⟩ : S34), (⟨0, 67108864, 0, (⟨0, 0, 0, 0⟩ : S23)⟩ : S34), (⟨0, 67108865, 0, (⟨0, 0, 0, 0⟩ : S23)⟩ : S34), (⟨0, (-67108865), 0, (⟨0, 0, 0, 0⟩ : S23)⟩ : S34), (⟨0, 0, 0, (⟨1, 0, 0, 0⟩ : S23)⟩ : S34), (⟨0, 0, 2, (⟨(-1), 0, 0, 0⟩ : S23)⟩ : S34), (⟨0, 0, 3, (⟨0, 0, 0, 0⟩ : S23)⟩ : S34)] : List (S34)) : List (S34))).bind fun y459 => (mutoscopelaw5_KeyNumbers.l4 k y459 (y459.length : Int) 0))
def mutoscopelaw5_KeyNumbers.l1 : Nat → Int → Int → Option (Bool)
 | 0, _, _ => none
 | k + 1, x1, x2 => if x2 < 5 then (mutoscopelaw5_KeyNumbers.l2 k x1 x2 ([] : List (S34)) 0) else (mutoscopelaw5_KeyNumbers.l0 k (wrap64 (x1 + 1)))
def mutoscopelaw5_KeyNumbers.l2 : Nat → Int → Int → List (S34) → Int → Option (Bool)
 | 0, _, _, _, _ => none
 | k + 1, x1, x2, x3, x4 => if x4 < x1 then (if x2 = 2 then (if x3.length < 2513169434916 then (mutoscopelaw5_KeyNumbers.l2 k x1 x2 (x3 ++ [(⟨wrap64 (x4 * 5), wrap64 ((wrap64 (x4 * x4)) * 70000), x2, (⟨21845, (-65536), 32768, 131072⟩ : S23)⟩ : S34)]) (wrap64 (x4 + 1))) else (none)) else (if x3.length < 2513169434916 then (mutoscopelaw5_KeyNumbers.l2 k x1 x2 (x3 ++ [(⟨wrap64 (x4 * 5), wrap64 ((wrap64 (x4 * x4)) * 70000), x2, (⟨0, 0, 0, 0⟩ : S23)⟩ : S34)]) (wrap64 (x4 + 1))) else (none))) else (mutoscopelaw5_KeyNumbers.l3 k x1 x2 x3 (-3))
def mutoscopelaw5_KeyNumbers.l3 : Nat → Int → Int → List (S34) → Int → Option (Bool)
 | 0, _, _, _, _ => none
 | k + 1, x1, x2, x3, x6 => if x6 < 32 then ((mutoscopelaw5_same.f k x3 x6 9).bind fun t456 => (if t456 = true then ((key_Goes.f k x2 5 700 9 0 (wrap64 (x6 * 3000))).bind fun t457 => ((mutoscoperef5_Goes.f k x2 5 700 9 0 (wrap64 (x6 * 3000))).bind fun t458 => (if t457 = t458 then (mutoscopelaw5_KeyNumbers.l3 k x1 x2 x3 (wrap64 (x6 + 1))) else (none)))) else (none))) else (mutoscopelaw5_KeyNumbers.l1 k x1 (wrap64 (x2 + 1)))
def mutoscopelaw5_KeyNumbers.l4 : Nat → List (S34) → Int → Int → Option (Bool)
 | 0, _, _, _ => none
 | k + 1, x70, x71, x72 => if x72 < x71 then (if 0 ≤ x72 then (if x72 < (x70.length : Int) then ((mutoscopelaw5_same.f k (([(⟨(rd_T34 x70 x72).f0, (rd_T34 x70 x72).f1, (rd_T34 x70 x72).f2, (⟨(rd_T34 x70 x72).f3.f0, (rd_T34 x70 x72).f3.f1, (rd_T34 x70 x72).f3.f2, (rd_T34 x70 x72).f3.f3⟩ : S23)⟩ : S34)] : List (S34))) 0 0).bind fun t472 => (if t472 = true then ((mutoscopelaw5_same.f k (([(⟨(-1099511627776), 0, 0, (⟨0, 0, 0, 0⟩ : S23)⟩ : S34), (⟨(rd_T34 x70 x72).f0, (rd_T34 x70 x72).f1, (rd_T34 x70 x72).f2, (⟨(rd_T34 x70 x72).f3.f0, (rd_T34 x70 x72).f3.f1, (rd_T34 x70 x72).f3.f2, (rd_T34 x70 x72).f3.f3⟩ : S23)⟩ : S34)] : List (S34))) 0 0).bind fun t476 => (if t476 = true then (mutoscopelaw5_KeyNumbers.l4 k x70 x71 (wrap64 (x72 + 1))) else (none))) else (none))) else (none)) else (none)) else (if 33 ≤ 5026338869833 then ((mutoscopelaw5_same.f k (List.replicate 33 z34) 0 0).bind fun t465 => (if t465 = true then ((mutoscopelaw5_known.f k).bind fun t466 => (some t466)) else (none))) else (none))
end
def mutoscopelaw5_KeyNumbers.f (k : Nat)  : Option (Bool) := mutoscopelaw5_KeyNumbers.l0 k 0
set_option maxHeartbeats 8000000 in
set_option maxRecDepth 100000 in
theorem mutoscopelaw5_KeyNumbers.calls (k : Nat)  (r : Bool) (w : World) (h : mutoscopelaw5_KeyNumbers.f k  = some r) :
  Calls Try.prog 11 #[] w fun e w' => e = .returned (.bool r) ∧ Below w.heap.size w w' := by
 have hu34 := Try.underlying34
 have hu23 := Try.underlying23
 have HB := Aside0.mk (Below.refl w.heap.size w)
 have H : (mutoscopelaw5_KeyNumbers.l0 k 0) = some r := h
 clear h
 have H' := Aside0.mk H
 clear H
 go_enter Try.func11, Try.ntmps11
 go_wp2
 go_loopg [1] k (fun kq v1 w' => ∃ (x1_1 : Int), v1 = .int .i64 x1_1 ∧ Aside0 (mutoscopelaw5_KeyNumbers.l0 kq x1_1 = some r) ∧ Aside0 (kq ≤ k) ∧ Aside0 (Below w.heap.size w w'))
 case atStart => exact ⟨(0), (by first | rfl | (simp; done) | (simp [*]; done)), H', ⟨Nat.le_refl _⟩, ⟨by repeat (first | (with_reducible first | exact HB.out | apply below_alloc | apply pw_below_drewN | apply below_drew1) | exact HB.out)⟩⟩
 case round =>
  clear H'
  obtain ⟨x1_1, rfl, HA, HK1, HB⟩ := hrel
  cases gk with
  | zero => exact absurd HA.out (by simp [mutoscopelaw5_KeyNumbers.l0])
  | succ k1 =>
   have H := HA.out
   clear HA
   simp only [mutoscopelaw5_KeyNumbers.l0] at H
   by_cases c1 : x1_1 < 6
   ·rw [if_pos c1] at H
    have c1b0 : decide (x1_1 < 6) = true := decide_eq_true c1
    clear c1
    have H' := Aside0.mk H
    clear H
    go_wp2
    go_loopg [2] k1 (fun kq v2 w' => ∃ (x2_2 : Int), v2 = .int .i64 x2_2 ∧ Aside0 (mutoscopelaw5_KeyNumbers.l1 kq x1_1 x2_2 = some r) ∧ Aside0 (kq ≤ k1) ∧ Aside0 (Below w.heap.size w w'))
    case atStart => exact ⟨((-1)), (by first | rfl | (simp; done) | (simp [*]; done)), H', ⟨Nat.le_refl _⟩, ⟨by repeat (first | (with_reducible first | exact HB.out | apply below_alloc | apply pw_below_drewN | apply below_drew1) | exact HB.out)⟩⟩
    case round =>
     clear H'
     try clear c1
     try clear c1b0
     obtain ⟨x2_2, rfl, HA, HK2, HB⟩ := hrel
     cases gk with
     | zero => exact absurd HA.out (by simp [mutoscopelaw5_KeyNumbers.l1])
     | succ k2 =>
      have H := HA.out
      clear HA
      simp only [mutoscopelaw5_KeyNumbers.l1] at H
      by_cases c2 : x2_2 < 5
      ·rw [if_pos c2] at H
       have c2b0 : decide (x2_2 < 5) = true := decide_eq_true c2
       clear c2
       have H' := Aside0.mk H
       clear H
       go_wp2
       go_loopg [3, 4] k2 (fun kq v3 v4 w' => ∃ (x3_3 : List (S34)) (x4_3 : Int), v4 = .int .i64 x4_3 ∧ Aside0 (mutoscopelaw5_KeyNumbers.l2 kq x1_1 x2_2 x3_3 x4_3 = some r) ∧ Aside0 (kq ≤ k2) ∧ Aside0 (Kd.R k34 34 w' w.heap.size (fun _ => True) v3 x3_3) ∧ Aside0 (Below w.heap.size w w'))
       case atStart => exact ⟨(([] : List (S34))), (0), (by first | rfl | (simp; done) | (simp [*]; done)), H', ⟨Nat.le_refl _⟩, ⟨by first | exact Kd.R_nil _ _ _ _ _ | exact Kd.N_nil _ _ _ _ _ | exact Kd.V_nil _ _ _ _ _ | exact Kd.Q_nil _ _ _ _ _ | exact Kd.S_nil _ _ _ _ _⟩, ⟨by repeat (first | (with_reducible first | exact HB.out | apply below_alloc | apply pw_below_drewN | apply below_drew1) | exact HB.out)⟩⟩
       case round =>
        clear H'
        try clear c1
        try clear c1b0
        try clear c2
        try clear c2b0
        try clear p2
        obtain ⟨x3_3, x4_3, rfl, HA, HK3, HO_3, HB⟩ := hrel
        cases gk with
        | zero => exact absurd HA.out (by simp [mutoscopelaw5_KeyNumbers.l2])
        | succ k3 =>
         have H := HA.out
         clear HA
         simp only [mutoscopelaw5_KeyNumbers.l2] at H
         by_cases c3 : x4_3 < x1_1
         ·rw [if_pos c3] at H
          have c3b0 : decide (x4_3 < x1_1) = true := decide_eq_true c3
          clear c3
          by_cases c4 : x2_2 = 2
          ·rw [if_pos c4] at H
           have c4b0 : (x2_2 == 2) = true := beq_iff_eq.mpr c4
           have c4b1 : (x2_2 != 2) = false := bne_eq_false_iff_eq.mpr c4
           clear c4
           by_cases c5 : x3_3.length < 2513169434916
           ·rw [if_pos c5] at H
            have LMc5 := Aside0.mk c5
            clear c5
            obtain ⟨y450, hy450⟩ : ∃ y_ : List (S34), y_ = (x3_3 ++ [(⟨wrap64 (x4_3 * 5), wrap64 ((wrap64 (x4_3 * x4_3)) * 70000), x2_2, (⟨21845, (-65536), 32768, 131072⟩ : S23)⟩ : S34)]) := ⟨_, rfl⟩
            replace H : (mutoscopelaw5_KeyNumbers.l2 k3 x1_1 x2_2 y450 (wrap64 (x4_3 + 1))) = some r := by first | (rw [hy450]; with_reducible exact H) | (have H2_ := (Option.bind_some _ _).symm.trans H; rw [hy450]; with_reducible exact H2_) | (have H2_ := (Option.bind_some _ _).symm.trans H; with_reducible exact H2_) | with_reducible exact H | (rw [hy450]; exact H) | exact H
            have Ny450 := Aside0.mk hy450
            clear hy450
            have H' := Aside0.mk H
            clear H
            go_wp2_with (first | ((with_reducible refine gate_dst (N := 5) rfl ?_); (try (refine gate_guard (by rfl) ?_; dsimp only)); refine box_event ?hg (N := 5) ?hd (cs := #[.int .i64 0, .int .i64 0, .int .i64 0, .int .i64 0, .int .i64 0, .int .i64 0, .int .i64 0]) (t := 34) ?hr ?_; (case hd => rfl); (case hg => rfl); (case hr => first | (go_simp; done) | (go_simp; rfl)); intro gb449 hg w6 hbox hb; have n0_ := Aside0.mk (Kd.R_below (Kd.R_elderB (by (with_reducible repeat (first | apply Kd.R_alloc | apply Kd.R_drewN | apply Kd.R_drew)); exact HO_3.out) gb449 (Nat.le_of_eq hg.symm)) hb); have n1_ := Aside0.mk (below_step (by repeat (first | (with_reducible first | exact HB.out | apply below_alloc | apply pw_below_drewN | apply below_drew1) | exact HB.out)) hb); have n2_ := Aside0.mk (hbox); have n3_ := Aside0.mk ((by rw [hg]; exact (below_size (by repeat (first | (with_reducible first | exact HB.out | apply below_alloc | apply pw_below_drewN | apply below_drew1) | exact HB.out))) : w.heap.size ≤ gb449)); have n4_ := Aside0.mk ((by rw [hg]; exact (below_size (by repeat (first | (with_reducible first | exact HB.out | apply below_alloc | apply pw_below_drewN | apply below_drew1) | exact HB.out))) : w.heap.size ≤ gb449)); clear HO_3; clear HB; have HO_3 := n0_; have HB := n1_; have BK449 := n2_; have GW449 := n3_; have GE449 := n4_; clear n0_ n1_ n2_ n3_ n4_; clear hb hbox hg; have hcz7_0 : w6.cell? ⟨gb449, 0, none⟩ = some (.int .i64 0) := (blk_cell BK449.out 0).trans rfl; have hcz7_1 : w6.cell? ⟨gb449, 1, none⟩ = some (.int .i64 0) := (blk_cell BK449.out 1).trans rfl; have hcz7_2 : w6.cell? ⟨gb449, 2, none⟩ = some (.int .i64 0) := (blk_cell BK449.out 2).trans rfl; have hcz7_3 : w6.cell? ⟨gb449, 3, none⟩ = some (.int .i64 0) := (blk_cell BK449.out 3).trans rfl; have hcz7_4 : w6.cell? ⟨gb449, 4, none⟩ = some (.int .i64 0) := (blk_cell BK449.out 4).trans rfl; have hcz7_5 : w6.cell? ⟨gb449, 5, none⟩ = some (.int .i64 0) := (blk_cell BK449.out 5).trans rfl; have hcz7_6 : w6.cell? ⟨gb449, 6, none⟩ = some (.int .i64 0) := (blk_cell BK449.out 6).trans rfl; have hfz7_0 := blk_frozen BK449.out 0; have hfz7_1 := blk_frozen BK449.out 1; have hfz7_2 := blk_frozen BK449.out 2; have hfz7_3 := blk_frozen BK449.out 3; have hfz7_4 := blk_frozen BK449.out 4; have hfz7_5 := blk_frozen BK449.out 5; have hfz7_6 := blk_frozen BK449.out 6) | ((with_reducible refine gate_builtin (b := .append) (xs := #[.tmp 34, .tmp 36]) rfl ?_); (try (refine gate_guard (by rfl) ?_; dsimp only)); at_builtin; refine Kd.R_append k34 (w0 := w) w.heap.size rfl (.tmp 34) (.tmp 36) 31 34 (.agg #[(.int .i64 0), (.int .i64 0), (.int .i64 0), (.int .i64 0), (.int .i64 0), (.int .i64 0), (.int .i64 0)]) 56 rfl Try.underlying31 info34 rfl (by decide) (by omega) u3 x3_3 (⟨wrap64 (x4_3 * 5), wrap64 ((wrap64 (x4_3 * x4_3)) * 70000), x2_2, (⟨21845, (-65536), 32768, 131072⟩ : S23)⟩ : S34) [.int .i64 (wrap64 (x4_3 * 5)), .int .i64 (wrap64 ((wrap64 (x4_3 * x4_3)) * 70000)), .int .i64 x2_2, .int .i64 21845, .int .i64 (-65536), .int .i64 32768, .int .i64 131072] (fun k_ => k_ ≠ gb449) (fun _ => False) rfl (by first | (go_simp; done) | (go_simp; rfl)) ?aP (fun _ hk => hk.elim) ?aF ?aO ?aB ?aS ?aL ?_; (case aP => exact k34_mkM _ _ _ (⟨wrap64 (x4_3 * 5), wrap64 ((wrap64 (x4_3 * x4_3)) * 70000), x2_2, (⟨21845, (-65536), 32768, 131072⟩ : S23)⟩ : S34)); (case aB => exact (by repeat (first | (with_reducible first | exact HB.out | apply below_alloc | apply pw_below_drewN | apply below_drew1 | refine below_set ?_ GE449.out) | exact HB.out))); (case aF => exact (fun k_ hk => Kd.freshB (g := gb449) (o := .cells #[.int .i64 (wrap64 (x4_3 * 5)), .int .i64 (wrap64 ((wrap64 (x4_3 * x4_3)) * 70000)), .int .i64 x2_2, .int .i64 21845, .int .i64 (-65536), .int .i64 32768, .int .i64 131072] 34 (0, 0)) (by (with_reducible repeat (first | refine blk_drewN ?_ _ | refine blk_drew ?_ | refine blk_alloc ?_ _)); refine blk_put (cs := #[.int .i64 (wrap64 (x4_3 * 5)), .int .i64 (wrap64 ((wrap64 (x4_3 * x4_3)) * 70000)), .int .i64 x2_2, .int .i64 21845, .int .i64 (-65536), .int .i64 32768, .int .i64 0]) ?_ 6 _ rfl; (with_reducible repeat (first | refine blk_drewN ?_ _ | refine blk_drew ?_ | refine blk_alloc ?_ _)); refine blk_put (cs := #[.int .i64 (wrap64 (x4_3 * 5)), .int .i64 (wrap64 ((wrap64 (x4_3 * x4_3)) * 70000)), .int .i64 x2_2, .int .i64 21845, .int .i64 (-65536), .int .i64 0, .int .i64 0]) ?_ 5 _ rfl; (with_reducible repeat (first | refine blk_drewN ?_ _ | refine blk_drew ?_ | refine blk_alloc ?_ _)); refine blk_put (cs := #[.int .i64 (wrap64 (x4_3 * 5)), .int .i64 (wrap64 ((wrap64 (x4_3 * x4_3)) * 70000)), .int .i64 x2_2, .int .i64 21845, .int .i64 0, .int .i64 0, .int .i64 0]) ?_ 4 _ rfl; (with_reducible repeat (first | refine blk_drewN ?_ _ | refine blk_drew ?_ | refine blk_alloc ?_ _)); refine blk_put (cs := #[.int .i64 (wrap64 (x4_3 * 5)), .int .i64 (wrap64 ((wrap64 (x4_3 * x4_3)) * 70000)), .int .i64 x2_2, .int .i64 0, .int .i64 0, .int .i64 0, .int .i64 0]) ?_ 3 _ rfl; (with_reducible repeat (first | refine blk_drewN ?_ _ | refine blk_drew ?_ | refine blk_alloc ?_ _)); refine blk_put (cs := #[.int .i64 (wrap64 (x4_3 * 5)), .int .i64 (wrap64 ((wrap64 (x4_3 * x4_3)) * 70000)), .int .i64 x2_2, .int .i64 0, .int .i64 0, .int .i64 0, .int .i64 0]) ?_ 6 _ rfl; (with_reducible repeat (first | refine blk_drewN ?_ _ | refine blk_drew ?_ | refine blk_alloc ?_ _)); refine blk_put (cs := #[.int .i64 (wrap64 (x4_3 * 5)), .int .i64 (wrap64 ((wrap64 (x4_3 * x4_3)) * 70000)), .int .i64 x2_2, .int .i64 0, .int .i64 0, .int .i64 0, .int .i64 0]) ?_ 5 _ rfl; (with_reducible repeat (first | refine blk_drewN ?_ _ | refine blk_drew ?_ | refine blk_alloc ?_ _)); refine blk_put (cs := #[.int .i64 (wrap64 (x4_3 * 5)), .int .i64 (wrap64 ((wrap64 (x4_3 * x4_3)) * 70000)), .int .i64 x2_2, .int .i64 0, .int .i64 0, .int .i64 0, .int .i64 0]) ?_ 4 _ rfl; (with_reducible repeat (first | refine blk_drewN ?_ _ | refine blk_drew ?_ | refine blk_alloc ?_ _)); refine blk_put (cs := #[.int .i64 (wrap64 (x4_3 * 5)), .int .i64 (wrap64 ((wrap64 (x4_3 * x4_3)) * 70000)), .int .i64 x2_2, .int .i64 0, .int .i64 0, .int .i64 0, .int .i64 0]) ?_ 3 _ rfl; (with_reducible repeat (first | refine blk_drewN ?_ _ | refine blk_drew ?_ | refine blk_alloc ?_ _)); refine blk_put (cs := #[.int .i64 (wrap64 (x4_3 * 5)), .int .i64 (wrap64 ((wrap64 (x4_3 * x4_3)) * 70000)), .int .i64 0, .int .i64 0, .int .i64 0, .int .i64 0, .int .i64 0]) ?_ 2 _ rfl; (with_reducible repeat (first | refine blk_drewN ?_ _ | refine blk_drew ?_ | refine blk_alloc ?_ _)); refine blk_put (cs := #[.int .i64 (wrap64 (x4_3 * 5)), .int .i64 0, .int .i64 0, .int .i64 0, .int .i64 0, .int .i64 0, .int .i64 0]) ?_ 1 _ rfl; (with_reducible repeat (first | refine blk_drewN ?_ _ | refine blk_drew ?_ | refine blk_alloc ?_ _)); refine blk_put (cs := #[.int .i64 0, .int .i64 0, .int .i64 0, .int .i64 0, .int .i64 0, .int .i64 0, .int .i64 0]) ?_ 0 _ rfl; (with_reducible repeat (first | refine blk_drewN ?_ _ | refine blk_drew ?_ | refine blk_alloc ?_ _)); exact BK449.out) k_ hk)); (case aO => exact (by (with_reducible repeat (first | apply Kd.R_alloc | apply Kd.R_drewN | apply Kd.R_drew)); exact Kd.R_mono (Kd.R_far (p := ⟨gb449, 6, none⟩) (Kd.R_far (p := ⟨gb449, 5, none⟩) (Kd.R_far (p := ⟨gb449, 4, none⟩) (Kd.R_far (p := ⟨gb449, 3, none⟩) (Kd.R_far (p := ⟨gb449, 6, none⟩) (Kd.R_far (p := ⟨gb449, 5, none⟩) (Kd.R_far (p := ⟨gb449, 4, none⟩) (Kd.R_far (p := ⟨gb449, 3, none⟩) (Kd.R_far (p := ⟨gb449, 2, none⟩) (Kd.R_far (p := ⟨gb449, 1, none⟩) (Kd.R_far (p := ⟨gb449, 0, none⟩) (Kd.R_mono HO_3.out (fun k_ hk => (⟨hk, hk.2⟩ : _ ∧ k_ ≠ gb449))) (fun _ hk => hk.2) (.int .i64 (wrap64 (x4_3 * 5)))) (fun _ hk => hk.2) (.int .i64 (wrap64 ((wrap64 (x4_3 * x4_3)) * 70000)))) (fun _ hk => hk.2) (.int .i64 x2_2)) (fun _ hk => hk.2) (.int .i64 0)) (fun _ hk => hk.2) (.int .i64 0)) (fun _ hk => hk.2) (.int .i64 0)) (fun _ hk => hk.2) (.int .i64 0)) (fun _ hk => hk.2) (.int .i64 21845)) (fun _ hk => hk.2) (.int .i64 (-65536))) (fun _ hk => hk.2) (.int .i64 32768)) (fun _ hk => hk.2) (.int .i64 131072)) (fun _ hk => hk.1.2))); (case aS => exact (below_size (by repeat (first | (with_reducible first | exact HB.out | apply below_alloc | apply pw_below_drewN | apply below_drew1 | refine below_set ?_ GE449.out) | exact HB.out)))); (case aL => have := LMc5.out; omega); intro v451 w8 ho hb hg hat; rw [← Ny450.out] at ho; have n0_ := Aside0.mk (blk_grown (g := gb449) (o := .cells #[.int .i64 (wrap64 (x4_3 * 5)), .int .i64 (wrap64 ((wrap64 (x4_3 * x4_3)) * 70000)), .int .i64 x2_2, .int .i64 21845, .int .i64 (-65536), .int .i64 32768, .int .i64 131072] 34 (0, 0)) (by (with_reducible repeat (first | refine blk_drewN ?_ _ | refine blk_drew ?_ | refine blk_alloc ?_ _)); refine blk_put (cs := #[.int .i64 (wrap64 (x4_3 * 5)), .int .i64 (wrap64 ((wrap64 (x4_3 * x4_3)) * 70000)), .int .i64 x2_2, .int .i64 21845, .int .i64 (-65536), .int .i64 32768, .int .i64 0]) ?_ 6 _ rfl; (with_reducible repeat (first | refine blk_drewN ?_ _ | refine blk_drew ?_ | refine blk_alloc ?_ _)); refine blk_put (cs := #[.int .i64 (wrap64 (x4_3 * 5)), .int .i64 (wrap64 ((wrap64 (x4_3 * x4_3)) * 70000)), .int .i64 x2_2, .int .i64 21845, .int .i64 (-65536), .int .i64 0, .int .i64 0]) ?_ 5 _ rfl; (with_reducible repeat (first | refine blk_drewN ?_ _ | refine blk_drew ?_ | refine blk_alloc ?_ _)); refine blk_put (cs := #[.int .i64 (wrap64 (x4_3 * 5)), .int .i64 (wrap64 ((wrap64 (x4_3 * x4_3)) * 70000)), .int .i64 x2_2, .int .i64 21845, .int .i64 0, .int .i64 0, .int .i64 0]) ?_ 4 _ rfl; (with_reducible repeat (first | refine blk_drewN ?_ _ | refine blk_drew ?_ | refine blk_alloc ?_ _)); refine blk_put (cs := #[.int .i64 (wrap64 (x4_3 * 5)), .int .i64 (wrap64 ((wrap64 (x4_3 * x4_3)) * 70000)), .int .i64 x2_2, .int .i64 0, .int .i64 0, .int .i64 0, .int .i64 0]) ?_ 3 _ rfl; (with_reducible repeat (first | refine blk_drewN ?_ _ | refine blk_drew ?_ | refine blk_alloc ?_ _)); refine blk_put (cs := #[.int .i64 (wrap64 (x4_3 * 5)), .int .i64 (wrap64 ((wrap64 (x4_3 * x4_3)) * 70000)), .int .i64 x2_2, .int .i64 0, .int .i64 0, .int .i64 0, .int .i64 0]) ?_ 6 _ rfl; (with_reducible repeat (first | refine blk_drewN ?_ _ | refine blk_drew ?_ | refine blk_alloc ?_ _)); refine blk_put (cs := #[.int .i64 (wrap64 (x4_3 * 5)), .int .i64 (wrap64 ((wrap64 (x4_3 * x4_3)) * 70000)), .int .i64 x2_2, .int .i64 0, .int .i64 0, .int .i64 0, .int .i64 0]) ?_ 5 _ rfl; (with_reducible repeat (first | refine blk_drewN ?_ _ | refine blk_drew ?_ | refine blk_alloc ?_ _)); refine blk_put (cs := #[.int .i64 (wrap64 (x4_3 * 5)), .int .i64 (wrap64 ((wrap64 (x4_3 * x4_3)) * 70000)), .int .i64 x2_2, .int .i64 0, .int .i64 0, .int .i64 0, .int .i64 0]) ?_ 4 _ rfl; (with_reducible repeat (first | refine blk_drewN ?_ _ | refine blk_drew ?_ | refine blk_alloc ?_ _)); refine blk_put (cs := #[.int .i64 (wrap64 (x4_3 * 5)), .int .i64 (wrap64 ((wrap64 (x4_3 * x4_3)) * 70000)), .int .i64 x2_2, .int .i64 0, .int .i64 0, .int .i64 0, .int .i64 0]) ?_ 3 _ rfl; (with_reducible repeat (first | refine blk_drewN ?_ _ | refine blk_drew ?_ | refine blk_alloc ?_ _)); refine blk_put (cs := #[.int .i64 (wrap64 (x4_3 * 5)), .int .i64 (wrap64 ((wrap64 (x4_3 * x4_3)) * 70000)), .int .i64 0, .int .i64 0, .int .i64 0, .int .i64 0, .int .i64 0]) ?_ 2 _ rfl; (with_reducible repeat (first | refine blk_drewN ?_ _ | refine blk_drew ?_ | refine blk_alloc ?_ _)); refine blk_put (cs := #[.int .i64 (wrap64 (x4_3 * 5)), .int .i64 0, .int .i64 0, .int .i64 0, .int .i64 0, .int .i64 0, .int .i64 0]) ?_ 1 _ rfl; (with_reducible repeat (first | refine blk_drewN ?_ _ | refine blk_drew ?_ | refine blk_alloc ?_ _)); refine blk_put (cs := #[.int .i64 0, .int .i64 0, .int .i64 0, .int .i64 0, .int .i64 0, .int .i64 0, .int .i64 0]) ?_ 0 _ rfl; (with_reducible repeat (first | refine blk_drewN ?_ _ | refine blk_drew ?_ | refine blk_alloc ?_ _)); exact BK449.out) hg (Kd.R_away HO_3.out (fun _ hk => hk.2))); have n1_ := Aside0.mk (hb); have n2_ := Aside0.mk (ho); clear BK449; clear HB; clear HO_3; have BK449 := n0_; have HB := n1_; have HO452 := n2_; clear n0_ n1_ n2_; clear ho hb hg hat))
            go_roundg k3
            case measure => have := HK1.out; have := HK2.out; have := HK3.out; omega
            case rel => exact ⟨(y450), (wrap64 (x4_3 + 1)), (by first | rfl | (simp; done) | (simp [*]; done)), H', ⟨by have := HK1.out; have := HK2.out; have := HK3.out; omega⟩, ⟨by (with_reducible repeat (first | apply Kd.R_alloc | apply Kd.R_drewN | apply Kd.R_drew)); exact Kd.R_mono HO452.out (fun _ hk => trivial)⟩, ⟨by repeat (first | (with_reducible first | exact HB.out | apply below_alloc | apply pw_below_drewN | apply below_drew1 | refine below_set ?_ GE449.out) | exact HB.out)⟩⟩
           ·rw [if_neg c5] at H
            exact absurd H (by simp)
          ·rw [if_neg c4] at H
           have c4b0 : (x2_2 == 2) = false := beq_eq_false_iff_ne.mpr c4
           have c4b1 : (x2_2 != 2) = true := bne_iff_ne.mpr c4
           by_cases c9 : x3_3.length < 2513169434916
           ·rw [if_pos c9] at H
            have LMc9 := Aside0.mk c9
            clear c9
            obtain ⟨y453, hy453⟩ : ∃ y_ : List (S34), y_ = (x3_3 ++ [(⟨wrap64 (x4_3 * 5), wrap64 ((wrap64 (x4_3 * x4_3)) * 70000), x2_2, (⟨0, 0, 0, 0⟩ : S23)⟩ : S34)]) := ⟨_, rfl⟩
            replace H : (mutoscopelaw5_KeyNumbers.l2 k3 x1_1 x2_2 y453 (wrap64 (x4_3 + 1))) = some r := by first | (rw [hy453]; with_reducible exact H) | (have H2_ := (Option.bind_some _ _).symm.trans H; rw [hy453]; with_reducible exact H2_) | (have H2_ := (Option.bind_some _ _).symm.trans H; with_reducible exact H2_) | with_reducible exact H | (rw [hy453]; exact H) | exact H
            have Ny453 := Aside0.mk hy453
            clear hy453
            have H' := Aside0.mk H
            clear H
            go_wp2_with (first | ((with_reducible refine gate_dst (N := 5) rfl ?_); (try (refine gate_guard (by rfl) ?_; dsimp only)); refine box_event ?hg (N := 5) ?hd (cs := #[.int .i64 0, .int .i64 0, .int .i64 0, .int .i64 0, .int .i64 0, .int .i64 0, .int .i64 0]) (t := 34) ?hr ?_; (case hd => rfl); (case hg => rfl); (case hr => first | (go_simp; done) | (go_simp; rfl)); intro gb449 hg w10 hbox hb; have n0_ := Aside0.mk (Kd.R_below (Kd.R_elderB (by (with_reducible repeat (first | apply Kd.R_alloc | apply Kd.R_drewN | apply Kd.R_drew)); exact HO_3.out) gb449 (Nat.le_of_eq hg.symm)) hb); have n1_ := Aside0.mk (below_step (by repeat (first | (with_reducible first | exact HB.out | apply below_alloc | apply pw_below_drewN | apply below_drew1) | exact HB.out)) hb); have n2_ := Aside0.mk (hbox); have n3_ := Aside0.mk ((by rw [hg]; exact (below_size (by repeat (first | (with_reducible first | exact HB.out | apply below_alloc | apply pw_below_drewN | apply below_drew1) | exact HB.out))) : w.heap.size ≤ gb449)); have n4_ := Aside0.mk ((by rw [hg]; exact (below_size (by repeat (first | (with_reducible first | exact HB.out | apply below_alloc | apply pw_below_drewN | apply below_drew1) | exact HB.out))) : w.heap.size ≤ gb449)); clear HO_3; clear HB; have HO_3 := n0_; have HB := n1_; have BK449 := n2_; have GW449 := n3_; have GE449 := n4_; clear n0_ n1_ n2_ n3_ n4_; clear hb hbox hg; have hcz11_0 : w10.cell? ⟨gb449, 0, none⟩ = some (.int .i64 0) := (blk_cell BK449.out 0).trans rfl; have hcz11_1 : w10.cell? ⟨gb449, 1, none⟩ = some (.int .i64 0) := (blk_cell BK449.out 1).trans rfl; have hcz11_2 : w10.cell? ⟨gb449, 2, none⟩ = some (.int .i64 0) := (blk_cell BK449.out 2).trans rfl; have hcz11_3 : w10.cell? ⟨gb449, 3, none⟩ = some (.int .i64 0) := (blk_cell BK449.out 3).trans rfl; have hcz11_4 : w10.cell? ⟨gb449, 4, none⟩ = some (.int .i64 0) := (blk_cell BK449.out 4).trans rfl; have hcz11_5 : w10.cell? ⟨gb449, 5, none⟩ = some (.int .i64 0) := (blk_cell BK449.out 5).trans rfl; have hcz11_6 : w10.cell? ⟨gb449, 6, none⟩ = some (.int .i64 0) := (blk_cell BK449.out 6).trans rfl; have hfz11_0 := blk_frozen BK449.out 0; have hfz11_1 := blk_frozen BK449.out 1; have hfz11_2 := blk_frozen BK449.out 2; have hfz11_3 := blk_frozen BK449.out 3; have hfz11_4 := blk_frozen BK449.out 4; have hfz11_5 := blk_frozen BK449.out 5; have hfz11_6 := blk_frozen BK449.out 6) | ((with_reducible refine gate_builtin (b := .append) (xs := #[.tmp 34, .tmp 36]) rfl ?_); (try (refine gate_guard (by rfl) ?_; dsimp only)); at_builtin; refine Kd.R_append k34 (w0 := w) w.heap.size rfl (.tmp 34) (.tmp 36) 31 34 (.agg #[(.int .i64 0), (.int .i64 0), (.int .i64 0), (.int .i64 0), (.int .i64 0), (.int .i64 0), (.int .i64 0)]) 56 rfl Try.underlying31 info34 rfl (by decide) (by omega) u3 x3_3 (⟨wrap64 (x4_3 * 5), wrap64 ((wrap64 (x4_3 * x4_3)) * 70000), x2_2, (⟨0, 0, 0, 0⟩ : S23)⟩ : S34) [.int .i64 (wrap64 (x4_3 * 5)), .int .i64 (wrap64 ((wrap64 (x4_3 * x4_3)) * 70000)), .int .i64 x2_2, .int .i64 0, .int .i64 0, .int .i64 0, .int .i64 0] (fun k_ => k_ ≠ gb449) (fun _ => False) rfl (by first | (go_simp; done) | (go_simp; rfl)) ?aP (fun _ hk => hk.elim) ?aF ?aO ?aB ?aS ?aL ?_; (case aP => exact k34_mkM _ _ _ (⟨wrap64 (x4_3 * 5), wrap64 ((wrap64 (x4_3 * x4_3)) * 70000), x2_2, (⟨0, 0, 0, 0⟩ : S23)⟩ : S34)); (case aB => exact (by repeat (first | (with_reducible first | exact HB.out | apply below_alloc | apply pw_below_drewN | apply below_drew1 | refine below_set ?_ GE449.out) | exact HB.out))); (case aF => exact (fun k_ hk => Kd.freshB (g := gb449) (o := .cells #[.int .i64 (wrap64 (x4_3 * 5)), .int .i64 (wrap64 ((wrap64 (x4_3 * x4_3)) * 70000)), .int .i64 x2_2, .int .i64 0, .int .i64 0, .int .i64 0, .int .i64 0] 34 (0, 0)) (by (with_reducible repeat (first | refine blk_drewN ?_ _ | refine blk_drew ?_ | refine blk_alloc ?_ _)); refine blk_put (cs := #[.int .i64 (wrap64 (x4_3 * 5)), .int .i64 (wrap64 ((wrap64 (x4_3 * x4_3)) * 70000)), .int .i64 x2_2, .int .i64 0, .int .i64 0, .int .i64 0, .int .i64 0]) ?_ 6 _ rfl; (with_reducible repeat (first | refine blk_drewN ?_ _ | refine blk_drew ?_ | refine blk_alloc ?_ _)); refine blk_put (cs := #[.int .i64 (wrap64 (x4_3 * 5)), .int .i64 (wrap64 ((wrap64 (x4_3 * x4_3)) * 70000)), .int .i64 x2_2, .int .i64 0, .int .i64 0, .int .i64 0, .int .i64 0]) ?_ 5 _ rfl; (with_reducible repeat (first | refine blk_drewN ?_ _ | refine blk_drew ?_ | refine blk_alloc ?_ _)); refine blk_put (cs := #[.int .i64 (wrap64 (x4_3 * 5)), .int .i64 (wrap64 ((wrap64 (x4_3 * x4_3)) * 70000)), .int .i64 x2_2, .int .i64 0, .int .i64 0, .int .i64 0, .int .i64 0]) ?_ 4 _ rfl; (with_reducible repeat (first | refine blk_drewN ?_ _ | refine blk_drew ?_ | refine blk_alloc ?_ _)); refine blk_put (cs := #[.int .i64 (wrap64 (x4_3 * 5)), .int .i64 (wrap64 ((wrap64 (x4_3 * x4_3)) * 70000)), .int .i64 x2_2, .int .i64 0, .int .i64 0, .int .i64 0, .int .i64 0]) ?_ 3 _ rfl; (with_reducible repeat (first | refine blk_drewN ?_ _ | refine blk_drew ?_ | refine blk_alloc ?_ _)); refine blk_put (cs := #[.int .i64 (wrap64 (x4_3 * 5)), .int .i64 (wrap64 ((wrap64 (x4_3 * x4_3)) * 70000)), .int .i64 0, .int .i64 0, .int .i64 0, .int .i64 0, .int .i64 0]) ?_ 2 _ rfl; (with_reducible repeat (first | refine blk_drewN ?_ _ | refine blk_drew ?_ | refine blk_alloc ?_ _)); refine blk_put (cs := #[.int .i64 (wrap64 (x4_3 * 5)), .int .i64 0, .int .i64 0, .int .i64 0, .int .i64 0, .int .i64 0, .int .i64 0]) ?_ 1 _ rfl; (with_reducible repeat (first | refine blk_drewN ?_ _ | refine blk_drew ?_ | refine blk_alloc ?_ _)); refine blk_put (cs := #[.int .i64 0, .int .i64 0, .int .i64 0, .int .i64 0, .int .i64 0, .int .i64 0, .int .i64 0]) ?_ 0 _ rfl; (with_reducible repeat (first | refine blk_drewN ?_ _ | refine blk_drew ?_ | refine blk_alloc ?_ _)); exact BK449.out) k_ hk)); (case aO => exact (by (with_reducible repeat (first | apply Kd.R_alloc | apply Kd.R_drewN | apply Kd.R_drew)); exact Kd.R_mono (Kd.R_far (p := ⟨gb449, 6, none⟩) (Kd.R_far (p := ⟨gb449, 5, none⟩) (Kd.R_far (p := ⟨gb449, 4, none⟩) (Kd.R_far (p := ⟨gb449, 3, none⟩) (Kd.R_far (p := ⟨gb449, 2, none⟩) (Kd.R_far (p := ⟨gb449, 1, none⟩) (Kd.R_far (p := ⟨gb449, 0, none⟩) (Kd.R_mono HO_3.out (fun k_ hk => (⟨hk, hk.2⟩ : _ ∧ k_ ≠ gb449))) (fun _ hk => hk.2) (.int .i64 (wrap64 (x4_3 * 5)))) (fun _ hk => hk.2) (.int .i64 (wrap64 ((wrap64 (x4_3 * x4_3)) * 70000)))) (fun _ hk => hk.2) (.int .i64 x2_2)) (fun _ hk => hk.2) (.int .i64 0)) (fun _ hk => hk.2) (.int .i64 0)) (fun _ hk => hk.2) (.int .i64 0)) (fun _ hk => hk.2) (.int .i64 0)) (fun _ hk => hk.1.2))); (case aS => exact (below_size (by repeat (first | (with_reducible first | exact HB.out | apply below_alloc | apply pw_below_drewN | apply below_drew1 | refine below_set ?_ GE449.out) | exact HB.out)))); (case aL => have := LMc9.out; omega); intro v454 w12 ho hb hg hat; rw [← Ny453.out] at ho; have n0_ := Aside0.mk (blk_grown (g := gb449) (o := .cells #[.int .i64 (wrap64 (x4_3 * 5)), .int .i64 (wrap64 ((wrap64 (x4_3 * x4_3)) * 70000)), .int .i64 x2_2, .int .i64 0, .int .i64 0, .int .i64 0, .int .i64 0] 34 (0, 0)) (by (with_reducible repeat (first | refine blk_drewN ?_ _ | refine blk_drew ?_ | refine blk_alloc ?_ _)); refine blk_put (cs := #[.int .i64 (wrap64 (x4_3 * 5)), .int .i64 (wrap64 ((wrap64 (x4_3 * x4_3)) * 70000)), .int .i64 x2_2, .int .i64 0, .int .i64 0, .int .i64 0, .int .i64 0]) ?_ 6 _ rfl; (with_reducible repeat (first | refine blk_drewN ?_ _ | refine blk_drew ?_ | refine blk_alloc ?_ _)); refine blk_put (cs := #[.int .i64 (wrap64 (x4_3 * 5)), .int .i64 (wrap64 ((wrap64 (x4_3 * x4_3)) * 70000)), .int .i64 x2_2, .int .i64 0, .int .i64 0, .int .i64 0, .int .i64 0]) ?_ 5 _ rfl; (with_reducible repeat (first | refine blk_drewN ?_ _ | refine blk_drew ?_ | refine blk_alloc ?_ _)); refine blk_put (cs := #[.int .i64 (wrap64 (x4_3 * 5)), .int .i64 (wrap64 ((wrap64 (x4_3 * x4_3)) * 70000)), .int .i64 x2_2, .int .i64 0, .int .i64 0, .int .i64 0, .int .i64 0]) ?_ 4 _ rfl; (with_reducible repeat (first | refine blk_drewN ?_ _ | refine blk_drew ?_ | refine blk_alloc ?_ _)); refine blk_put (cs := #[.int .i64 (wrap64 (x4_3 * 5)), .int .i64 (wrap64 ((wrap64 (x4_3 * x4_3)) * 70000)), .int .i64 x2_2, .int .i64 0, .int .i64 0, .int .i64 0, .int .i64 0]) ?_ 3 _ rfl; (with_reducible repeat (first | refine blk_drewN ?_ _ | refine blk_drew ?_ | refine blk_alloc ?_ _)); refine blk_put (cs := #[.int .i64 (wrap64 (x4_3 * 5)), .int .i64 (wrap64 ((wrap64 (x4_3 * x4_3)) * 70000)), .int .i64 0, .int .i64 0, .int .i64 0, .int .i64 0, .int .i64 0]) ?_ 2 _ rfl; (with_reducible repeat (first | refine blk_drewN ?_ _ | refine blk_drew ?_ | refine blk_alloc ?_ _)); refine blk_put (cs := #[.int .i64 (wrap64 (x4_3 * 5)), .int .i64 0, .int .i64 0, .int .i64 0, .int .i64 0, .int .i64 0, .int .i64 0]) ?_ 1 _ rfl; (with_reducible repeat (first | refine blk_drewN ?_ _ | refine blk_drew ?_ | refine blk_alloc ?_ _)); refine blk_put (cs := #[.int .i64 0, .int .i64 0, .int .i64 0, .int .i64 0, .int .i64 0, .int .i64 0, .int .i64 0]) ?_ 0 _ rfl; (with_reducible repeat (first | refine blk_drewN ?_ _ | refine blk_drew ?_ | refine blk_alloc ?_ _)); exact BK449.out) hg (Kd.R_away HO_3.out (fun _ hk => hk.2))); have n1_ := Aside0.mk (hb); have n2_ := Aside0.mk (ho); clear BK449; clear HB; clear HO_3; have BK449 := n0_; have HB := n1_; have HO455 := n2_; clear n0_ n1_ n2_; clear ho hb hg hat))
            go_roundg k3
            case measure => have := HK1.out; have := HK2.out; have := HK3.out; omega
            case rel => exact ⟨(y453), (wrap64 (x4_3 + 1)), (by first | rfl | (simp; done) | (simp [*]; done)), H', ⟨by have := HK1.out; have := HK2.out; have := HK3.out; omega⟩, ⟨by (with_reducible repeat (first | apply Kd.R_alloc | apply Kd.R_drewN | apply Kd.R_drew)); exact Kd.R_mono HO455.out (fun _ hk => trivial)⟩, ⟨by repeat (first | (with_reducible first | exact HB.out | apply below_alloc | apply pw_below_drewN | apply below_drew1 | refine below_set ?_ GE449.out) | exact HB.out)⟩⟩
           ·rw [if_neg c9] at H
            exact absurd H (by simp)
         ·rw [if_neg c3] at H
          have c3b0 : decide (x4_3 < x1_1) = false := decide_eq_false c3
          clear c3
          have H' := Aside0.mk H
          clear H
          go_wp2
          go_loopg [6] k3 (fun kq v6 w' => ∃ (x6_4 : Int), v6 = .int .i64 x6_4 ∧ Aside0 (mutoscopelaw5_KeyNumbers.l3 kq x1_1 x2_2 x3_3 x6_4 = some r) ∧ Aside0 (kq ≤ k3) ∧ Aside0 (Kd.R k34 34 w' w.heap.size (fun _ => True) u3 x3_3) ∧ Aside0 (Below w.heap.size w w'))
          case atStart => exact ⟨((-3)), (by first | rfl | (simp; done) | (simp [*]; done)), H', ⟨Nat.le_refl _⟩, ⟨by (with_reducible repeat (first | apply Kd.R_alloc | apply Kd.R_drewN | apply Kd.R_drew)); exact HO_3.out⟩, ⟨by repeat (first | (with_reducible first | exact HB.out | apply below_alloc | apply pw_below_drewN | apply below_drew1) | exact HB.out)⟩⟩
          case round =>
           clear H'
           try clear c1
           try clear c1b0
           try clear c2
           try clear c2b0
           try clear p2
           try clear c3
           try clear c3b0
           try clear c4
           try clear c4b0
           try clear c4b1
           try clear c5
           try clear p6
           try clear c9
           try clear c11
           try clear hcz11_0
           try clear hcz11_1
           try clear hcz11_2
           try clear hcz11_3
           try clear hcz11_4
           try clear hcz11_5
           try clear hcz11_6
           try clear hcz7_0
           try clear hcz7_1
           try clear hcz7_2
           try clear hcz7_3
           try clear hcz7_4
           try clear hcz7_5
           try clear hcz7_6
           try clear hfz11_0
           try clear hfz11_1
           try clear hfz11_2
           try clear hfz11_3
           try clear hfz11_4
           try clear hfz11_5
           try clear hfz11_6
           try clear hfz7_0
           try clear hfz7_1
           try clear hfz7_2
           try clear hfz7_3
           try clear hfz7_4
           try clear hfz7_5
           try clear hfz7_6
           try clear p2
           obtain ⟨x6_4, rfl, HA, HK4, HO_3, HB⟩ := hrel
           cases gk with
           | zero => exact absurd HA.out (by simp [mutoscopelaw5_KeyNumbers.l3])
           | succ k4 =>
            have H := HA.out
            clear HA
            simp only [mutoscopelaw5_KeyNumbers.l3] at H
            by_cases c13 : x6_4 < 32
            ·rw [if_pos c13] at H
             have c13b0 : decide (x6_4 < 32) = true := decide_eq_true c13
             clear c13
             replace H := Option.bind_eq_some_iff.mp H
             obtain ⟨t456, A140, H⟩ := H
             replace H : (if t456 = true then ((key_Goes.f k4 x2_2 5 700 9 0 (wrap64 (x6_4 * 3000))).bind fun t457 => ((mutoscoperef5_Goes.f k4 x2_2 5 700 9 0 (wrap64 (x6_4 * 3000))).bind fun t458 => (if t457 = t458 then (mutoscopelaw5_KeyNumbers.l3 k4 x1_1 x2_2 x3_3 (wrap64 (x6_4 + 1))) else (none)))) else (none)) = some r := H
             have A14 := Aside0.mk A140
             clear A140
             by_cases c15 : t456 = true
             ·subst c15
              have H1 : ((key_Goes.f k4 x2_2 5 700 9 0 (wrap64 (x6_4 * 3000))).bind fun t457 => ((mutoscoperef5_Goes.f k4 x2_2 5 700 9 0 (wrap64 (x6_4 * 3000))).bind fun t458 => (if t457 = t458 then (mutoscopelaw5_KeyNumbers.l3 k4 x1_1 x2_2 x3_3 (wrap64 (x6_4 + 1))) else (none)))) = some r := by rw [if_pos rfl] at H; exact H
              clear H
              have H := H1
              clear H1
              replace H := Option.bind_eq_some_iff.mp H
              obtain ⟨t457, A160, H⟩ := H
              replace H : ((mutoscoperef5_Goes.f k4 x2_2 5 700 9 0 (wrap64 (x6_4 * 3000))).bind fun t458 => (if t457 = t458 then (mutoscopelaw5_KeyNumbers.l3 k4 x1_1 x2_2 x3_3 (wrap64 (x6_4 + 1))) else (none))) = some r := H
              have A16 := Aside0.mk A160
              clear A160
              replace H := Option.bind_eq_some_iff.mp H
              obtain ⟨t458, A170, H⟩ := H
              replace H : (if t457 = t458 then (mutoscopelaw5_KeyNumbers.l3 k4 x1_1 x2_2 x3_3 (wrap64 (x6_4 + 1))) else (none)) = some r := H
              have A17 := Aside0.mk A170
              clear A170
              by_cases c18 : t457 = t458
              ·rw [if_pos c18] at H
               have c18b0 : (t457 == t458) = true := beq_iff_eq.mpr c18
               have c18b1 : (t457 != t458) = false := bne_eq_false_iff_eq.mpr c18
               clear c18
               have H' := Aside0.mk H
               clear H
               obtain ⟨Ao19, co19, eo19⟩ := Kd.R_slice HO_3.out
               subst eo19
               go_wp2_with (first | ((with_reducible refine gate_callee (f := 26) rfl ?_); refine goesL_ (some 44) rfl rfl Try.func26 (by kernel_rfl) rfl #[.slice Ao19 x3_3.length co19, .int .i64 x6_4, .int .i64 9] rfl (by (try simp only [List.map_toArray, List.map_cons, List.map_nil]); first | done | rfl | (simp only [List.length_drop, List.length_take]; rfl)) ?_; (with_reducible refine (mutoscopelaw5_same.calls k4 _ _ x3_3 x6_4 9 true _ ?side1 ?side2 A14.out).mono ?_); (case side1 => repeat (first | exact (Kd.R_reads' HO_3.out).2.2 | (with_reducible refine Kd.C_alloc ?_ _) | (with_reducible refine Kd.C_drewN ?_ _) | (with_reducible refine Kd.C_drew ?_))); (case side2 => exact (Kd.R_reads' HO_3.out).2.1); rintro e w20 ⟨rfl, hb⟩; refine ⟨_, rfl, ?_⟩; have n0_ := Aside0.mk (Kd.R_below (by (with_reducible repeat (first | apply Kd.R_alloc | apply Kd.R_drewN | apply Kd.R_drew)); exact HO_3.out) hb); have n1_ := Aside0.mk (below_step (by repeat (first | (with_reducible first | exact HB.out | apply below_alloc | apply pw_below_drewN | apply below_drew1) | exact HB.out)) hb); clear HO_3; clear HB; have HO_3 := n0_; have HB := n1_; clear n0_ n1_; (try clear hb); (try clear hb2); (try clear hk); (try clear hi)) | (go_at_call 27; (with_reducible refine (key_Goes.calls k4 x2_2 5 700 9 0 (wrap64 (x6_4 * 3000)) t457 _ A16.out).mono ?_); rintro e w21 ⟨rfl, hb⟩; have n0_ := Aside0.mk (Kd.R_below (by (with_reducible repeat (first | apply Kd.R_alloc | apply Kd.R_drewN | apply Kd.R_drew)); exact HO_3.out) hb); have n1_ := Aside0.mk (below_step (by repeat (first | (with_reducible first | exact HB.out | apply below_alloc | apply pw_below_drewN | apply below_drew1) | exact HB.out)) hb); clear HO_3; clear HB; have HO_3 := n0_; have HB := n1_; clear n0_ n1_; (try clear hb); (try clear hb2); (try clear hk); (try clear hi)) | (go_at_call 28; (with_reducible refine (mutoscoperef5_Goes.calls k4 x2_2 5 700 9 0 (wrap64 (x6_4 * 3000)) t458 _ A17.out).mono ?_); rintro e w22 ⟨rfl, hb⟩; have n0_ := Aside0.mk (Kd.R_below (by (with_reducible repeat (first | apply Kd.R_alloc | apply Kd.R_drewN | apply Kd.R_drew)); exact HO_3.out) hb); have n1_ := Aside0.mk (below_step (by repeat (first | (with_reducible first | exact HB.out | apply below_alloc | apply pw_below_drewN | apply below_drew1) | exact HB.out)) hb); clear HO_3; clear HB; have HO_3 := n0_; have HB := n1_; clear n0_ n1_; (try clear hb); (try clear hb2); (try clear hk); (try clear hi)))
               go_roundg k4
               case measure => have := HK1.out; have := HK2.out; have := HK3.out; have := HK4.out; omega
               case rel => exact ⟨(wrap64 (x6_4 + 1)), (by first | rfl | (simp; done) | (simp [*]; done)), H', ⟨by have := HK1.out; have := HK2.out; have := HK3.out; have := HK4.out; omega⟩, ⟨by (with_reducible repeat (first | apply Kd.R_alloc | apply Kd.R_drewN | apply Kd.R_drew)); exact HO_3.out⟩, ⟨by repeat (first | (with_reducible first | exact HB.out | apply below_alloc | apply pw_below_drewN | apply below_drew1) | exact HB.out)⟩⟩
              ·rw [if_neg c18] at H
               exact absurd H (by simp)
             ·replace c15 := Bool.eq_false_iff.mpr c15
              subst c15
              have H1 : (none) = some r := by rw [if_neg (show ¬ (false = true) by decide)] at H; exact H
              clear H
              have H := H1
              clear H1
              exact absurd H (by simp)
            ·rw [if_neg c13] at H
             have c13b0 : decide (x6_4 < 32) = false := decide_eq_false c13
             clear c13
             have H' := Aside0.mk H
             clear H
             go_wp2
             go_roundg k4
             case measure => have := HK1.out; have := HK2.out; have := HK3.out; have := HK4.out; omega
             case rel => exact ⟨(wrap64 (x2_2 + 1)), (by first | rfl | (simp; done) | (simp [*]; done)), H', ⟨by have := HK1.out; have := HK2.out; have := HK3.out; have := HK4.out; omega⟩, ⟨by repeat (first | (with_reducible first | exact HB.out | apply below_alloc | apply pw_below_drewN | apply below_drew1) | exact HB.out)⟩⟩
      ·rw [if_neg c2] at H
       have c2b0 : decide (x2_2 < 5) = false := decide_eq_false c2
       clear c2
       have H' := Aside0.mk H
       clear H
       go_wp2
       go_roundg k2
       case measure => have := HK1.out; have := HK2.out; omega
       case rel => exact ⟨(wrap64 (x1_1 + 1)), (by first | rfl | (simp; done) | (simp [*]; done)), H', ⟨by have := HK1.out; have := HK2.out; omega⟩, ⟨by repeat (first | (with_reducible first | exact HB.out | apply below_alloc | apply pw_below_drewN | apply below_drew1) | exact HB.out)⟩⟩
   ·rw [if_neg c1] at H
    have c1b0 : decide (x1_1 < 6) = false := decide_eq_false c1
    clear c1
    obtain ⟨y459, hy459⟩ : ∃ y_ : List (S34), y_ = (([(⟨1073741824, 0, 0, (⟨0, 0, 0, 0⟩ : S23)⟩ : S34), (⟨1073741825, 0, 0, (⟨0, 0, 0, 0⟩ : S23)⟩ : S34), (⟨(-1073741825), 0, 0, (⟨0, 0, 0, 0⟩ : S23)⟩ : S34), (⟨0, 67108864, 0, (⟨0, 0, 0, 0⟩ : S23)⟩ : S34), (⟨0, 67108865, 0, (⟨0, 0, 0, 0⟩ : S23)⟩ : S34), (⟨0, (-67108865), 0, (⟨0, 0, 0, 0⟩ : S23)⟩ : S34), (⟨0, 0, 0, (⟨1, 0, 0, 0⟩ : S23)⟩ : S34), (⟨0, 0, 2, (⟨(-1), 0, 0, 0⟩ : S23)⟩ : S34), (⟨0, 0, 3, (⟨0, 0, 0, 0⟩ : S23)⟩ : S34)] : List (S34))) := ⟨_, rfl⟩
    replace H : (mutoscopelaw5_KeyNumbers.l4 k1 y459 (y459.length : Int) 0) = some r := by first | (rw [hy459]; with_reducible exact H) | (have H2_ := (Option.bind_some _ _).symm.trans H; rw [hy459]; with_reducible exact H2_) | (have H2_ := (Option.bind_some _ _).symm.trans H; with_reducible exact H2_) | with_reducible exact H | (rw [hy459]; exact H) | exact H
    have Ny459 := Aside0.mk hy459
    clear hy459
    have H' := Aside0.mk H
    clear H
    go_wp2_with (first | ((with_reducible refine gate_dst (N := 70) rfl ?_); (try (refine gate_guard (by rfl) ?_; dsimp only)); refine Kd.R_lit k34 _ 34 ?hg (N := 70) ?hd (xs := ([(⟨1073741824, 0, 0, (⟨0, 0, 0, 0⟩ : S23)⟩ : S34), (⟨1073741825, 0, 0, (⟨0, 0, 0, 0⟩ : S23)⟩ : S34), (⟨(-1073741825), 0, 0, (⟨0, 0, 0, 0⟩ : S23)⟩ : S34), (⟨0, 67108864, 0, (⟨0, 0, 0, 0⟩ : S23)⟩ : S34), (⟨0, 67108865, 0, (⟨0, 0, 0, 0⟩ : S23)⟩ : S34), (⟨0, (-67108865), 0, (⟨0, 0, 0, 0⟩ : S23)⟩ : S34), (⟨0, 0, 0, (⟨1, 0, 0, 0⟩ : S23)⟩ : S34), (⟨0, 0, 2, (⟨(-1), 0, 0, 0⟩ : S23)⟩ : S34), (⟨0, 0, 3, (⟨0, 0, 0, 0⟩ : S23)⟩ : S34)] : List (S34))) (inner := [.int .i64 1073741824, .int .i64 0, .int .i64 0, .int .i64 0, .int .i64 0, .int .i64 0, .int .i64 0, .int .i64 1073741825, .int .i64 0, .int .i64 0, .int .i64 0, .int .i64 0, .int .i64 0, .int .i64 0, .int .i64 (-1073741825), .int .i64 0, .int .i64 0, .int .i64 0, .int .i64 0, .int .i64 0, .int .i64 0, .int .i64 0, .int .i64 67108864, .int .i64 0, .int .i64 0, .int .i64 0, .int .i64 0, .int .i64 0, .int .i64 0, .int .i64 67108865, .int .i64 0, .int .i64 0, .int .i64 0, .int .i64 0, .int .i64 0, .int .i64 0, .int .i64 (-67108865), .int .i64 0, .int .i64 0, .int .i64 0, .int .i64 0, .int .i64 0, .int .i64 0, .int .i64 0, .int .i64 0, .int .i64 1, .int .i64 0, .int .i64 0, .int .i64 0, .int .i64 0, .int .i64 0, .int .i64 2, .int .i64 (-1), .int .i64 0, .int .i64 0, .int .i64 0, .int .i64 0, .int .i64 0, .int .i64 3, .int .i64 0, .int .i64 0, .int .i64 0, .int .i64 0]) (ok := fun _ => True) (okp := fun _ => True) ?hr ?hp (fun _ hk => hk) trivial (Below.refl _ _) (Nat.le_refl _) (by simp) ?_; (case hd => rfl); (case hg => rfl); (case hr => first | (go_simp; done) | (go_simp; rfl)); (case hp => exact (Reps.c7 (show Kd.M k34 _ _ _ (⟨1073741824, 0, 0, (⟨0, 0, 0, 0⟩ : S23)⟩ : S34) [.int .i64 1073741824, .int .i64 0, .int .i64 0, .int .i64 0, .int .i64 0, .int .i64 0, .int .i64 0] from (k34_mkM _ _ _ (⟨1073741824, 0, 0, (⟨0, 0, 0, 0⟩ : S23)⟩ : S34) )) (Reps.c7 (show Kd.M k34 _ _ _ (⟨1073741825, 0, 0, (⟨0, 0, 0, 0⟩ : S23)⟩ : S34) [.int .i64 1073741825, .int .i64 0, .int .i64 0, .int .i64 0, .int .i64 0, .int .i64 0, .int .i64 0] from (k34_mkM _ _ _ (⟨1073741825, 0, 0, (⟨0, 0, 0, 0⟩ : S23)⟩ : S34) )) (Reps.c7 (show Kd.M k34 _ _ _ (⟨(-1073741825), 0, 0, (⟨0, 0, 0, 0⟩ : S23)⟩ : S34) [.int .i64 (-1073741825), .int .i64 0, .int .i64 0, .int .i64 0, .int .i64 0, .int .i64 0, .int .i64 0] from (k34_mkM _ _ _ (⟨(-1073741825), 0, 0, (⟨0, 0, 0, 0⟩ : S23)⟩ : S34) )) (Reps.c7 (show Kd.M k34 _ _ _ (⟨0, 67108864, 0, (⟨0, 0, 0, 0⟩ : S23)⟩ : S34) [.int .i64 0, .int .i64 67108864, .int .i64 0, .int .i64 0, .int .i64 0, .int .i64 0, .int .i64 0] from (k34_mkM _ _ _ (⟨0, 67108864, 0, (⟨0, 0, 0, 0⟩ : S23)⟩ : S34) )) (Reps.c7 (show Kd.M k34 _ _ _ (⟨0, 67108865, 0, (⟨0, 0, 0, 0⟩ : S23)⟩ : S34) [.int .i64 0, .int .i64 67108865, .int .i64 0, .int .i64 0, .int .i64 0, .int .i64 0, .int .i64 0] from (k34_mkM _ _ _ (⟨0, 67108865, 0, (⟨0, 0, 0, 0⟩ : S23)⟩ : S34) )) (Reps.c7 (show Kd.M k34 _ _ _ (⟨0, (-67108865), 0, (⟨0, 0, 0, 0⟩ : S23)⟩ : S34) [.int .i64 0, .int .i64 (-67108865), .int .i64 0, .int .i64 0, .int .i64 0, .int .i64 0, .int .i64 0] from (k34_mkM _ _ _ (⟨0, (-67108865), 0, (⟨0, 0, 0, 0⟩ : S23)⟩ : S34) )) (Reps.c7 (show Kd.M k34 _ _ _ (⟨0, 0, 0, (⟨1, 0, 0, 0⟩ : S23)⟩ : S34) [.int .i64 0, .int .i64 0, .int .i64 0, .int .i64 1, .int .i64 0, .int .i64 0, .int .i64 0] from (k34_mkM _ _ _ (⟨0, 0, 0, (⟨1, 0, 0, 0⟩ : S23)⟩ : S34) )) (Reps.c7 (show Kd.M k34 _ _ _ (⟨0, 0, 2, (⟨(-1), 0, 0, 0⟩ : S23)⟩ : S34) [.int .i64 0, .int .i64 0, .int .i64 2, .int .i64 (-1), .int .i64 0, .int .i64 0, .int .i64 0] from (k34_mkM _ _ _ (⟨0, 0, 2, (⟨(-1), 0, 0, 0⟩ : S23)⟩ : S34) )) (Reps.c7 (show Kd.M k34 _ _ _ (⟨0, 0, 3, (⟨0, 0, 0, 0⟩ : S23)⟩ : S34) [.int .i64 0, .int .i64 0, .int .i64 3, .int .i64 0, .int .i64 0, .int .i64 0, .int .i64 0] from (k34_mkM _ _ _ (⟨0, 0, 3, (⟨0, 0, 0, 0⟩ : S23)⟩ : S34) )) (Reps.none _ _))))))))))); intro v460 w23 ho24 hb hg_ hnew_; clear hg_ hnew_; (first | rw [← Ny459.out] at ho24 | (simp only [Int.reduceToNat] at ho24; rw [← Ny459.out] at ho24)); have n0_ := Aside0.mk (Kd.R_lower ho24 (below_size (by repeat (first | (with_reducible first | exact HB.out | apply below_alloc | apply pw_below_drewN | apply below_drew1) | exact HB.out)))); have n1_ := Aside0.mk (below_step (by repeat (first | (with_reducible first | exact HB.out | apply below_alloc | apply pw_below_drewN | apply below_drew1) | exact HB.out)) hb); clear HB; have HO461 := n0_; have HB := n1_; clear n0_ n1_; clear hb ho24; obtain ⟨Ao25, co25, eo25⟩ := Kd.R_slice HO461.out; subst eo25))
    go_loopg [72] k1 (fun kq v72 w' => ∃ (x72_2 : Int), v72 = .int .i64 x72_2 ∧ Aside0 (mutoscopelaw5_KeyNumbers.l4 kq y459 (y459.length : Int) x72_2 = some r) ∧ Aside0 (kq ≤ k1) ∧ Aside0 (Kd.R k34 34 w' w.heap.size (fun _ => True) (.slice Ao25 y459.length co25) y459) ∧ Aside0 (Below w.heap.size w w'))
    case atStart => exact ⟨(0), (by first | rfl | (simp; done) | (simp [*]; done)), H', ⟨Nat.le_refl _⟩, ⟨by (with_reducible repeat (first | apply Kd.R_alloc | apply Kd.R_drewN | apply Kd.R_drew)); exact HO461.out⟩, ⟨by repeat (first | (with_reducible first | exact HB.out | apply below_alloc | apply pw_below_drewN | apply below_drew1) | exact HB.out)⟩⟩
    case round =>
     clear H'
     try clear c1
     try clear c1b0
     try clear c2
     try clear c2b0
     try clear p2
     try clear c3
     try clear c3b0
     try clear c4
     try clear c4b0
     try clear c4b1
     try clear c5
     try clear p6
     try clear c7
     try clear c9
     try clear c11
     try clear c13
     try clear c13b0
     try clear c15
     try clear c18
     try clear c18b0
     try clear c18b1
     try clear hcz11_0
     try clear hcz11_1
     try clear hcz11_2
     try clear hcz11_3
     try clear hcz11_4
     try clear hcz11_5
     try clear hcz11_6
     try clear hcz7_0
     try clear hcz7_1
     try clear hcz7_2
     try clear hcz7_3
     try clear hcz7_4
     try clear hcz7_5
     try clear hcz7_6
     try clear hfz11_0
     try clear hfz11_1
     try clear hfz11_2
     try clear hfz11_3
     try clear hfz11_4
     try clear hfz11_5
     try clear hfz11_6
     try clear hfz7_0
     try clear hfz7_1
     try clear hfz7_2
     try clear hfz7_3
     try clear hfz7_4
     try clear hfz7_5
     try clear hfz7_6
     try clear p2
     try clear p6
     obtain ⟨x72_2, rfl, HA, HK2, HO_70, HB⟩ := hrel
     cases gk with
     | zero => exact absurd HA.out (by simp [mutoscopelaw5_KeyNumbers.l4])
     | succ k2 =>
      have H := HA.out
      clear HA
      simp only [mutoscopelaw5_KeyNumbers.l4] at H
      by_cases c26 : x72_2 < (y459.length : Int)
      ·rw [if_pos c26] at H
       have c26b0 : decide (x72_2 < (y459.length : Int)) = true := decide_eq_true c26
       clear c26
       by_cases c27 : 0 ≤ x72_2
       ·rw [if_pos c27] at H
        have c27b0 : decide (0 ≤ x72_2) = true := decide_eq_true c27
        clear c27
        by_cases c28 : x72_2 < (y459.length : Int)
        ·rw [if_pos c28] at H
         have c28b0 : decide (x72_2 < (y459.length : Int)) = true := decide_eq_true c28
         clear c28
         obtain ⟨y469, hy469⟩ : ∃ y_ : List (S34), y_ = (([(⟨(rd_T34 y459 x72_2).f0, (rd_T34 y459 x72_2).f1, (rd_T34 y459 x72_2).f2, (⟨(rd_T34 y459 x72_2).f3.f0, (rd_T34 y459 x72_2).f3.f1, (rd_T34 y459 x72_2).f3.f2, (rd_T34 y459 x72_2).f3.f3⟩ : S23)⟩ : S34)] : List (S34))) := ⟨_, rfl⟩
         replace H : ((mutoscopelaw5_same.f k2 y469 0 0).bind fun t472 => (if t472 = true then ((mutoscopelaw5_same.f k2 (([(⟨(-1099511627776), 0, 0, (⟨0, 0, 0, 0⟩ : S23)⟩ : S34), (⟨(rd_T34 y459 x72_2).f0, (rd_T34 y459 x72_2).f1, (rd_T34 y459 x72_2).f2, (⟨(rd_T34 y459 x72_2).f3.f0, (rd_T34 y459 x72_2).f3.f1, (rd_T34 y459 x72_2).f3.f2, (rd_T34 y459 x72_2).f3.f3⟩ : S23)⟩ : S34)] : List (S34))) 0 0).bind fun t476 => (if t476 = true then (mutoscopelaw5_KeyNumbers.l4 k2 y459 (y459.length : Int) (wrap64 (x72_2 + 1))) else (none))) else (none))) = some r := by first | (rw [hy469]; with_reducible exact H) | (have H2_ := (Option.bind_some _ _).symm.trans H; rw [hy469]; with_reducible exact H2_) | (have H2_ := (Option.bind_some _ _).symm.trans H; with_reducible exact H2_) | with_reducible exact H | (rw [hy469]; exact H) | exact H
         have Ny469 := Aside0.mk hy469
         clear hy469
         replace H := Option.bind_eq_some_iff.mp H
         obtain ⟨t472, A290, H⟩ := H
         replace H : (if t472 = true then ((mutoscopelaw5_same.f k2 (([(⟨(-1099511627776), 0, 0, (⟨0, 0, 0, 0⟩ : S23)⟩ : S34), (⟨(rd_T34 y459 x72_2).f0, (rd_T34 y459 x72_2).f1, (rd_T34 y459 x72_2).f2, (⟨(rd_T34 y459 x72_2).f3.f0, (rd_T34 y459 x72_2).f3.f1, (rd_T34 y459 x72_2).f3.f2, (rd_T34 y459 x72_2).f3.f3⟩ : S23)⟩ : S34)] : List (S34))) 0 0).bind fun t476 => (if t476 = true then (mutoscopelaw5_KeyNumbers.l4 k2 y459 (y459.length : Int) (wrap64 (x72_2 + 1))) else (none))) else (none)) = some r := H
         have A29 := Aside0.mk A290
         clear A290
         by_cases c30 : t472 = true
         ·subst c30
          have H1 : ((mutoscopelaw5_same.f k2 (([(⟨(-1099511627776), 0, 0, (⟨0, 0, 0, 0⟩ : S23)⟩ : S34), (⟨(rd_T34 y459 x72_2).f0, (rd_T34 y459 x72_2).f1, (rd_T34 y459 x72_2).f2, (⟨(rd_T34 y459 x72_2).f3.f0, (rd_T34 y459 x72_2).f3.f1, (rd_T34 y459 x72_2).f3.f2, (rd_T34 y459 x72_2).f3.f3⟩ : S23)⟩ : S34)] : List (S34))) 0 0).bind fun t476 => (if t476 = true then (mutoscopelaw5_KeyNumbers.l4 k2 y459 (y459.length : Int) (wrap64 (x72_2 + 1))) else (none))) = some r := by rw [if_pos rfl] at H; exact H
          clear H
          have H := H1
          clear H1
          obtain ⟨y473, hy473⟩ : ∃ y_ : List (S34), y_ = (([(⟨(-1099511627776), 0, 0, (⟨0, 0, 0, 0⟩ : S23)⟩ : S34), (⟨(rd_T34 y459 x72_2).f0, (rd_T34 y459 x72_2).f1, (rd_T34 y459 x72_2).f2, (⟨(rd_T34 y459 x72_2).f3.f0, (rd_T34 y459 x72_2).f3.f1, (rd_T34 y459 x72_2).f3.f2, (rd_T34 y459 x72_2).f3.f3⟩ : S23)⟩ : S34)] : List (S34))) := ⟨_, rfl⟩
          replace H : ((mutoscopelaw5_same.f k2 y473 0 0).bind fun t476 => (if t476 = true then (mutoscopelaw5_KeyNumbers.l4 k2 y459 (y459.length : Int) (wrap64 (x72_2 + 1))) else (none))) = some r := by first | (rw [hy473]; with_reducible exact H) | (have H2_ := (Option.bind_some _ _).symm.trans H; rw [hy473]; with_reducible exact H2_) | (have H2_ := (Option.bind_some _ _).symm.trans H; with_reducible exact H2_) | with_reducible exact H | (rw [hy473]; exact H) | exact H
          have Ny473 := Aside0.mk hy473
          clear hy473
          replace H := Option.bind_eq_some_iff.mp H
          obtain ⟨t476, A310, H⟩ := H
          replace H : (if t476 = true then (mutoscopelaw5_KeyNumbers.l4 k2 y459 (y459.length : Int) (wrap64 (x72_2 + 1))) else (none)) = some r := H
          have A31 := Aside0.mk A310
          clear A310
          by_cases c32 : t476 = true
          ·subst c32
           have H1 : (mutoscopelaw5_KeyNumbers.l4 k2 y459 (y459.length : Int) (wrap64 (x72_2 + 1))) = some r := by rw [if_pos rfl] at H; exact H
           clear H
           have H := H1
           clear H1
           have H' := Aside0.mk H
           clear H
           have p467 : 0 ≤ (x72_2 : Int) := of_decide_eq_true (by first | (with_reducible assumption) | assumption)
           have q467 : x72_2 < (y459.length : Int) := of_decide_eq_true (by first | (with_reducible assumption) | assumption)
           obtain ⟨ad467, e467, hx467_0, hx467_1, hx467_2, hx467_3, hx467_4, hx467_5, hx467_6⟩ := at_T34 (Kd.R_reads' HO_70.out).2.2 x72_2 p467 q467
           cases e467
           replace p467 := eq_true p467
           replace q467 := eq_true q467
           go_wp2_with (first | ((with_reducible refine gate_dst (N := 8) rfl ?_); (try (refine gate_guard (by rfl) ?_; dsimp only)); refine box_event ?hg (N := 8) ?hd (cs := #[.int .i64 0, .int .i64 0, .int .i64 0, .int .i64 0, .int .i64 0, .int .i64 0, .int .i64 0]) (t := 34) ?hr ?_; (case hd => rfl); (case hg => rfl); (case hr => first | (go_simp; done) | (go_simp; rfl)); intro gb468 hg w33 hbox hb; have n0_ := Aside0.mk (Kd.R_below (Kd.R_elderB (by (with_reducible repeat (first | apply Kd.R_alloc | apply Kd.R_drewN | apply Kd.R_drew)); exact HO_70.out) gb468 (Nat.le_of_eq hg.symm)) hb); have n1_ := Aside0.mk (below_step (by repeat (first | (with_reducible first | exact HB.out | apply below_alloc | apply pw_below_drewN | apply below_drew1) | exact HB.out)) hb); have n2_ := Aside0.mk (hbox); have n3_ := Aside0.mk ((by rw [hg]; exact (below_size (by repeat (first | (with_reducible first | exact HB.out | apply below_alloc | apply pw_below_drewN | apply below_drew1) | exact HB.out))) : w.heap.size ≤ gb468)); have n4_ := Aside0.mk ((by rw [hg]; exact (below_size (by repeat (first | (with_reducible first | exact HB.out | apply below_alloc | apply pw_below_drewN | apply below_drew1) | exact HB.out))) : w.heap.size ≤ gb468)); clear HO_70; clear HB; have HO_70 := n0_; have HB := n1_; have BK468 := n2_; have GW468 := n3_; have GE468 := n4_; clear n0_ n1_ n2_ n3_ n4_; clear hb hbox hg; have hcz34_0 : w33.cell? ⟨gb468, 0, none⟩ = some (.int .i64 0) := (blk_cell BK468.out 0).trans rfl; have hcz34_1 : w33.cell? ⟨gb468, 1, none⟩ = some (.int .i64 0) := (blk_cell BK468.out 1).trans rfl; have hcz34_2 : w33.cell? ⟨gb468, 2, none⟩ = some (.int .i64 0) := (blk_cell BK468.out 2).trans rfl; have hcz34_3 : w33.cell? ⟨gb468, 3, none⟩ = some (.int .i64 0) := (blk_cell BK468.out 3).trans rfl; have hcz34_4 : w33.cell? ⟨gb468, 4, none⟩ = some (.int .i64 0) := (blk_cell BK468.out 4).trans rfl; have hcz34_5 : w33.cell? ⟨gb468, 5, none⟩ = some (.int .i64 0) := (blk_cell BK468.out 5).trans rfl; have hcz34_6 : w33.cell? ⟨gb468, 6, none⟩ = some (.int .i64 0) := (blk_cell BK468.out 6).trans rfl; have hfz34_0 := blk_frozen BK468.out 0; have hfz34_1 := blk_frozen BK468.out 1; have hfz34_2 := blk_frozen BK468.out 2; have hfz34_3 := blk_frozen BK468.out 3; have hfz34_4 := blk_frozen BK468.out 4; have hfz34_5 := blk_frozen BK468.out 5; have hfz34_6 := blk_frozen BK468.out 6) | ((with_reducible refine gate_dst (N := 77) rfl ?_); (try (refine gate_guard (by rfl) ?_; dsimp only)); refine Kd.R_lit k34 _ 34 ?hg (N := 77) ?hd (xs := ([(⟨(rd_T34 y459 x72_2).f0, (rd_T34 y459 x72_2).f1, (rd_T34 y459 x72_2).f2, (⟨(rd_T34 y459 x72_2).f3.f0, (rd_T34 y459 x72_2).f3.f1, (rd_T34 y459 x72_2).f3.f2, (rd_T34 y459 x72_2).f3.f3⟩ : S23)⟩ : S34)] : List (S34))) (inner := [.int .i64 ((rd_T34 y459 x72_2).f0), .int .i64 ((rd_T34 y459 x72_2).f1), .int .i64 ((rd_T34 y459 x72_2).f2), .int .i64 ((rd_T34 y459 x72_2).f3.f0), .int .i64 ((rd_T34 y459 x72_2).f3.f1), .int .i64 ((rd_T34 y459 x72_2).f3.f2), .int .i64 ((rd_T34 y459 x72_2).f3.f3)]) (ok := fun _ => True) (okp := fun _ => True) ?hr ?hp (fun _ hk => hk) trivial (Below.refl _ _) (Nat.le_refl _) (by simp) ?_; (case hd => rfl); (case hg => rfl); (case hr => first | (go_simp; done) | (go_simp; rfl)); (case hp => exact (Reps.c7 (show Kd.M k34 _ _ _ (⟨(rd_T34 y459 x72_2).f0, (rd_T34 y459 x72_2).f1, (rd_T34 y459 x72_2).f2, (⟨(rd_T34 y459 x72_2).f3.f0, (rd_T34 y459 x72_2).f3.f1, (rd_T34 y459 x72_2).f3.f2, (rd_T34 y459 x72_2).f3.f3⟩ : S23)⟩ : S34) [.int .i64 ((rd_T34 y459 x72_2).f0), .int .i64 ((rd_T34 y459 x72_2).f1), .int .i64 ((rd_T34 y459 x72_2).f2), .int .i64 ((rd_T34 y459 x72_2).f3.f0), .int .i64 ((rd_T34 y459 x72_2).f3.f1), .int .i64 ((rd_T34 y459 x72_2).f3.f2), .int .i64 ((rd_T34 y459 x72_2).f3.f3)] from (k34_mkM _ _ _ (⟨(rd_T34 y459 x72_2).f0, (rd_T34 y459 x72_2).f1, (rd_T34 y459 x72_2).f2, (⟨(rd_T34 y459 x72_2).f3.f0, (rd_T34 y459 x72_2).f3.f1, (rd_T34 y459 x72_2).f3.f2, (rd_T34 y459 x72_2).f3.f3⟩ : S23)⟩ : S34) )) (Reps.none _ _))); intro v470 w35 ho36 hb hg_ hnew_; clear hg_ hnew_; (first | rw [← Ny469.out] at ho36 | (simp only [Int.reduceToNat] at ho36; rw [← Ny469.out] at ho36)); have n0_ := Aside0.mk (Kd.R_elder' (by (with_reducible repeat (first | apply Kd.R_alloc | apply Kd.R_drewN | apply Kd.R_drew)); exact (Kd.R_mono (Kd.R_far (p := ⟨gb468, 6, none⟩) (Kd.R_far (p := ⟨gb468, 5, none⟩) (Kd.R_far (p := ⟨gb468, 4, none⟩) (Kd.R_far (p := ⟨gb468, 3, none⟩) (Kd.R_far (p := ⟨gb468, 2, none⟩) (Kd.R_far (p := ⟨gb468, 1, none⟩) (Kd.R_far (p := ⟨gb468, 0, none⟩) (Kd.R_mono HO_70.out (fun k_ hk => (⟨hk, hk.2⟩ : _ ∧ k_ ≠ gb468))) (fun _ hk => hk.2) (.int .i64 ((rd_T34 y459 x72_2).f0))) (fun _ hk => hk.2) (.int .i64 ((rd_T34 y459 x72_2).f1))) (fun _ hk => hk.2) (.int .i64 ((rd_T34 y459 x72_2).f2))) (fun _ hk => hk.2) (.int .i64 ((rd_T34 y459 x72_2).f3.f0))) (fun _ hk => hk.2) (.int .i64 ((rd_T34 y459 x72_2).f3.f1))) (fun _ hk => hk.2) (.int .i64 ((rd_T34 y459 x72_2).f3.f2))) (fun _ hk => hk.2) (.int .i64 ((rd_T34 y459 x72_2).f3.f3))) (fun _ h_ => h_.1))) (Kd.R_base ho36) hb); have n1_ := Aside0.mk (Kd.R_lower (Kd.R_newB (Kd.R_new' ho36 (Kd.R_lt (by (with_reducible repeat (first | apply Kd.R_alloc | apply Kd.R_drewN | apply Kd.R_drew)); exact (Kd.R_mono (Kd.R_far (p := ⟨gb468, 6, none⟩) (Kd.R_far (p := ⟨gb468, 5, none⟩) (Kd.R_far (p := ⟨gb468, 4, none⟩) (Kd.R_far (p := ⟨gb468, 3, none⟩) (Kd.R_far (p := ⟨gb468, 2, none⟩) (Kd.R_far (p := ⟨gb468, 1, none⟩) (Kd.R_far (p := ⟨gb468, 0, none⟩) (Kd.R_mono HO_70.out (fun k_ hk => (⟨hk, hk.2⟩ : _ ∧ k_ ≠ gb468))) (fun _ hk => hk.2) (.int .i64 ((rd_T34 y459 x72_2).f0))) (fun _ hk => hk.2) (.int .i64 ((rd_T34 y459 x72_2).f1))) (fun _ hk => hk.2) (.int .i64 ((rd_T34 y459 x72_2).f2))) (fun _ hk => hk.2) (.int .i64 ((rd_T34 y459 x72_2).f3.f0))) (fun _ hk => hk.2) (.int .i64 ((rd_T34 y459 x72_2).f3.f1))) (fun _ hk => hk.2) (.int .i64 ((rd_T34 y459 x72_2).f3.f2))) (fun _ hk => hk.2) (.int .i64 ((rd_T34 y459 x72_2).f3.f3))) (fun _ h_ => h_.1))))) (g := gb468) (o := .cells #[.int .i64 ((rd_T34 y459 x72_2).f0), .int .i64 ((rd_T34 y459 x72_2).f1), .int .i64 ((rd_T34 y459 x72_2).f2), .int .i64 ((rd_T34 y459 x72_2).f3.f0), .int .i64 ((rd_T34 y459 x72_2).f3.f1), .int .i64 ((rd_T34 y459 x72_2).f3.f2), .int .i64 ((rd_T34 y459 x72_2).f3.f3)] 34 (0, 0)) (by (with_reducible repeat (first | refine blk_drewN ?_ _ | refine blk_drew ?_ | refine blk_alloc ?_ _)); refine blk_put (cs := #[.int .i64 ((rd_T34 y459 x72_2).f0), .int .i64 ((rd_T34 y459 x72_2).f1), .int .i64 ((rd_T34 y459 x72_2).f2), .int .i64 ((rd_T34 y459 x72_2).f3.f0), .int .i64 ((rd_T34 y459 x72_2).f3.f1), .int .i64 ((rd_T34 y459 x72_2).f3.f2), .int .i64 0]) ?_ 6 _ rfl; (with_reducible repeat (first | refine blk_drewN ?_ _ | refine blk_drew ?_ | refine blk_alloc ?_ _)); refine blk_put (cs := #[.int .i64 ((rd_T34 y459 x72_2).f0), .int .i64 ((rd_T34 y459 x72_2).f1), .int .i64 ((rd_T34 y459 x72_2).f2), .int .i64 ((rd_T34 y459 x72_2).f3.f0), .int .i64 ((rd_T34 y459 x72_2).f3.f1), .int .i64 0, .int .i64 0]) ?_ 5 _ rfl; (with_reducible repeat (first | refine blk_drewN ?_ _ | refine blk_drew ?_ | refine blk_alloc ?_ _)); refine blk_put (cs := #[.int .i64 ((rd_T34 y459 x72_2).f0), .int .i64 ((rd_T34 y459 x72_2).f1), .int .i64 ((rd_T34 y459 x72_2).f2), .int .i64 ((rd_T34 y459 x72_2).f3.f0), .int .i64 0, .int .i64 0, .int .i64 0]) ?_ 4 _ rfl; (with_reducible repeat (first | refine blk_drewN ?_ _ | refine blk_drew ?_ | refine blk_alloc ?_ _)); refine blk_put (cs := #[.int .i64 ((rd_T34 y459 x72_2).f0), .int .i64 ((rd_T34 y459 x72_2).f1), .int .i64 ((rd_T34 y459 x72_2).f2), .int .i64 0, .int .i64 0, .int .i64 0, .int .i64 0]) ?_ 3 _ rfl; (with_reducible repeat (first | refine blk_drewN ?_ _ | refine blk_drew ?_ | refine blk_alloc ?_ _)); refine blk_put (cs := #[.int .i64 ((rd_T34 y459 x72_2).f0), .int .i64 ((rd_T34 y459 x72_2).f1), .int .i64 0, .int .i64 0, .int .i64 0, .int .i64 0, .int .i64 0]) ?_ 2 _ rfl; (with_reducible repeat (first | refine blk_drewN ?_ _ | refine blk_drew ?_ | refine blk_alloc ?_ _)); refine blk_put (cs := #[.int .i64 ((rd_T34 y459 x72_2).f0), .int .i64 0, .int .i64 0, .int .i64 0, .int .i64 0, .int .i64 0, .int .i64 0]) ?_ 1 _ rfl; (with_reducible repeat (first | refine blk_drewN ?_ _ | refine blk_drew ?_ | refine blk_alloc ?_ _)); refine blk_put (cs := #[.int .i64 0, .int .i64 0, .int .i64 0, .int .i64 0, .int .i64 0, .int .i64 0, .int .i64 0]) ?_ 0 _ rfl; (with_reducible repeat (first | refine blk_drewN ?_ _ | refine blk_drew ?_ | refine blk_alloc ?_ _)); exact BK468.out)) (below_size (by repeat (first | (with_reducible first | exact HB.out | apply below_alloc | apply pw_below_drewN | apply below_drew1 | refine below_set ?_ GE468.out) | exact HB.out)))); have n2_ := Aside0.mk (blk_below (g := gb468) (o := .cells #[.int .i64 ((rd_T34 y459 x72_2).f0), .int .i64 ((rd_T34 y459 x72_2).f1), .int .i64 ((rd_T34 y459 x72_2).f2), .int .i64 ((rd_T34 y459 x72_2).f3.f0), .int .i64 ((rd_T34 y459 x72_2).f3.f1), .int .i64 ((rd_T34 y459 x72_2).f3.f2), .int .i64 ((rd_T34 y459 x72_2).f3.f3)] 34 (0, 0)) (by (with_reducible repeat (first | refine blk_drewN ?_ _ | refine blk_drew ?_ | refine blk_alloc ?_ _)); refine blk_put (cs := #[.int .i64 ((rd_T34 y459 x72_2).f0), .int .i64 ((rd_T34 y459 x72_2).f1), .int .i64 ((rd_T34 y459 x72_2).f2), .int .i64 ((rd_T34 y459 x72_2).f3.f0), .int .i64 ((rd_T34 y459 x72_2).f3.f1), .int .i64 ((rd_T34 y459 x72_2).f3.f2), .int .i64 0]) ?_ 6 _ rfl; (with_reducible repeat (first | refine blk_drewN ?_ _ | refine blk_drew ?_ | refine blk_alloc ?_ _)); refine blk_put (cs := #[.int .i64 ((rd_T34 y459 x72_2).f0), .int .i64 ((rd_T34 y459 x72_2).f1), .int .i64 ((rd_T34 y459 x72_2).f2), .int .i64 ((rd_T34 y459 x72_2).f3.f0), .int .i64 ((rd_T34 y459 x72_2).f3.f1), .int .i64 0, .int .i64 0]) ?_ 5 _ rfl; (with_reducible repeat (first | refine blk_drewN ?_ _ | refine blk_drew ?_ | refine blk_alloc ?_ _)); refine blk_put (cs := #[.int .i64 ((rd_T34 y459 x72_2).f0), .int .i64 ((rd_T34 y459 x72_2).f1), .int .i64 ((rd_T34 y459 x72_2).f2), .int .i64 ((rd_T34 y459 x72_2).f3.f0), .int .i64 0, .int .i64 0, .int .i64 0]) ?_ 4 _ rfl; (with_reducible repeat (first | refine blk_drewN ?_ _ | refine blk_drew ?_ | refine blk_alloc ?_ _)); refine blk_put (cs := #[.int .i64 ((rd_T34 y459 x72_2).f0), .int .i64 ((rd_T34 y459 x72_2).f1), .int .i64 ((rd_T34 y459 x72_2).f2), .int .i64 0, .int .i64 0, .int .i64 0, .int .i64 0]) ?_ 3 _ rfl; (with_reducible repeat (first | refine blk_drewN ?_ _ | refine blk_drew ?_ | refine blk_alloc ?_ _)); refine blk_put (cs := #[.int .i64 ((rd_T34 y459 x72_2).f0), .int .i64 ((rd_T34 y459 x72_2).f1), .int .i64 0, .int .i64 0, .int .i64 0, .int .i64 0, .int .i64 0]) ?_ 2 _ rfl; (with_reducible repeat (first | refine blk_drewN ?_ _ | refine blk_drew ?_ | refine blk_alloc ?_ _)); refine blk_put (cs := #[.int .i64 ((rd_T34 y459 x72_2).f0), .int .i64 0, .int .i64 0, .int .i64 0, .int .i64 0, .int .i64 0, .int .i64 0]) ?_ 1 _ rfl; (with_reducible repeat (first | refine blk_drewN ?_ _ | refine blk_drew ?_ | refine blk_alloc ?_ _)); refine blk_put (cs := #[.int .i64 0, .int .i64 0, .int .i64 0, .int .i64 0, .int .i64 0, .int .i64 0, .int .i64 0]) ?_ 0 _ rfl; (with_reducible repeat (first | refine blk_drewN ?_ _ | refine blk_drew ?_ | refine blk_alloc ?_ _)); exact BK468.out) hb); have n3_ := Aside0.mk (below_step (by repeat (first | (with_reducible first | exact HB.out | apply below_alloc | apply pw_below_drewN | apply below_drew1 | refine below_set ?_ GE468.out) | exact HB.out)) hb); clear HO_70; clear BK468; clear HB; have HO_70 := n0_; have HO471 := n1_; have BK468 := n2_; have HB := n3_; clear n0_ n1_ n2_ n3_; clear hb ho36; obtain ⟨Ao37, co37, eo37⟩ := Kd.R_slice HO471.out; subst eo37) | ((with_reducible refine gate_callee (f := 26) rfl ?_); refine goesL_ (some 78) rfl rfl Try.func26 (by kernel_rfl) rfl #[.slice Ao37 y469.length co37, .int .i64 0, .int .i64 0] rfl (by (try simp only [List.map_toArray, List.map_cons, List.map_nil]); first | done | rfl | (simp only [List.length_drop, List.length_take]; rfl)) ?_; (with_reducible refine (mutoscopelaw5_same.calls k2 _ _ y469 0 0 true _ ?side1 ?side2 A29.out).mono ?_); (case side1 => repeat (first | exact (Kd.R_reads' HO471.out).2.2 | (with_reducible refine Kd.C_alloc ?_ _) | (with_reducible refine Kd.C_drewN ?_ _) | (with_reducible refine Kd.C_drew ?_))); (case side2 => exact (Kd.R_reads' HO471.out).2.1); rintro e w38 ⟨rfl, hb⟩; refine ⟨_, rfl, ?_⟩; have n0_ := Aside0.mk (Kd.R_below (by (with_reducible repeat (first | apply Kd.R_alloc | apply Kd.R_drewN | apply Kd.R_drew)); exact HO_70.out) hb); have n1_ := Aside0.mk (Kd.R_below (by (with_reducible repeat (first | apply Kd.R_alloc | apply Kd.R_drewN | apply Kd.R_drew)); exact HO471.out) hb); have n2_ := Aside0.mk (blk_below (g := gb468) (o := .cells #[.int .i64 ((rd_T34 y459 x72_2).f0), .int .i64 ((rd_T34 y459 x72_2).f1), .int .i64 ((rd_T34 y459 x72_2).f2), .int .i64 ((rd_T34 y459 x72_2).f3.f0), .int .i64 ((rd_T34 y459 x72_2).f3.f1), .int .i64 ((rd_T34 y459 x72_2).f3.f2), .int .i64 ((rd_T34 y459 x72_2).f3.f3)] 34 (0, 0)) (by (with_reducible repeat (first | refine blk_drewN ?_ _ | refine blk_drew ?_ | refine blk_alloc ?_ _)); exact BK468.out) hb); have n3_ := Aside0.mk (below_step (by repeat (first | (with_reducible first | exact HB.out | apply below_alloc | apply pw_below_drewN | apply below_drew1 | refine below_set ?_ GE468.out) | exact HB.out)) hb); clear HO_70; clear HO471; clear BK468; clear HB; have HO_70 := n0_; have HO471 := n1_; have BK468 := n2_; have HB := n3_; clear n0_ n1_ n2_ n3_; (try clear hb); (try clear hb2); (try clear hk); (try clear hi); have hcz39_0 : w38.cell? ⟨gb468, 0, none⟩ = some (.int .i64 ((rd_T34 y459 x72_2).f0)) := (blk_cell BK468.out 0).trans rfl; have hcz39_1 : w38.cell? ⟨gb468, 1, none⟩ = some (.int .i64 ((rd_T34 y459 x72_2).f1)) := (blk_cell BK468.out 1).trans rfl; have hcz39_2 : w38.cell? ⟨gb468, 2, none⟩ = some (.int .i64 ((rd_T34 y459 x72_2).f2)) := (blk_cell BK468.out 2).trans rfl; have hcz39_3 : w38.cell? ⟨gb468, 3, none⟩ = some (.int .i64 ((rd_T34 y459 x72_2).f3.f0)) := (blk_cell BK468.out 3).trans rfl; have hcz39_4 : w38.cell? ⟨gb468, 4, none⟩ = some (.int .i64 ((rd_T34 y459 x72_2).f3.f1)) := (blk_cell BK468.out 4).trans rfl; have hcz39_5 : w38.cell? ⟨gb468, 5, none⟩ = some (.int .i64 ((rd_T34 y459 x72_2).f3.f2)) := (blk_cell BK468.out 5).trans rfl; have hcz39_6 : w38.cell? ⟨gb468, 6, none⟩ = some (.int .i64 ((rd_T34 y459 x72_2).f3.f3)) := (blk_cell BK468.out 6).trans rfl; have hfz39_0 := blk_frozen BK468.out 0; have hfz39_1 := blk_frozen BK468.out 1; have hfz39_2 := blk_frozen BK468.out 2; have hfz39_3 := blk_frozen BK468.out 3; have hfz39_4 := blk_frozen BK468.out 4; have hfz39_5 := blk_frozen BK468.out 5; have hfz39_6 := blk_frozen BK468.out 6) | ((with_reducible refine gate_dst (N := 83) rfl ?_); (try (refine gate_guard (by rfl) ?_; dsimp only)); refine Kd.R_lit k34 _ 34 ?hg (N := 83) ?hd (xs := ([(⟨(-1099511627776), 0, 0, (⟨0, 0, 0, 0⟩ : S23)⟩ : S34), (⟨(rd_T34 y459 x72_2).f0, (rd_T34 y459 x72_2).f1, (rd_T34 y459 x72_2).f2, (⟨(rd_T34 y459 x72_2).f3.f0, (rd_T34 y459 x72_2).f3.f1, (rd_T34 y459 x72_2).f3.f2, (rd_T34 y459 x72_2).f3.f3⟩ : S23)⟩ : S34)] : List (S34))) (inner := [.int .i64 (-1099511627776), .int .i64 0, .int .i64 0, .int .i64 0, .int .i64 0, .int .i64 0, .int .i64 0, .int .i64 ((rd_T34 y459 x72_2).f0), .int .i64 ((rd_T34 y459 x72_2).f1), .int .i64 ((rd_T34 y459 x72_2).f2), .int .i64 ((rd_T34 y459 x72_2).f3.f0), .int .i64 ((rd_T34 y459 x72_2).f3.f1), .int .i64 ((rd_T34 y459 x72_2).f3.f2), .int .i64 ((rd_T34 y459 x72_2).f3.f3)]) (ok := fun _ => True) (okp := fun _ => True) ?hr ?hp (fun _ hk => hk) trivial (Below.refl _ _) (Nat.le_refl _) (by simp) ?_; (case hd => rfl); (case hg => rfl); (case hr => first | (go_simp; done) | (go_simp; rfl)); (case hp => exact (Reps.c7 (show Kd.M k34 _ _ _ (⟨(-1099511627776), 0, 0, (⟨0, 0, 0, 0⟩ : S23)⟩ : S34) [.int .i64 (-1099511627776), .int .i64 0, .int .i64 0, .int .i64 0, .int .i64 0, .int .i64 0, .int .i64 0] from (k34_mkM _ _ _ (⟨(-1099511627776), 0, 0, (⟨0, 0, 0, 0⟩ : S23)⟩ : S34) )) (Reps.c7 (show Kd.M k34 _ _ _ (⟨(rd_T34 y459 x72_2).f0, (rd_T34 y459 x72_2).f1, (rd_T34 y459 x72_2).f2, (⟨(rd_T34 y459 x72_2).f3.f0, (rd_T34 y459 x72_2).f3.f1, (rd_T34 y459 x72_2).f3.f2, (rd_T34 y459 x72_2).f3.f3⟩ : S23)⟩ : S34) [.int .i64 ((rd_T34 y459 x72_2).f0), .int .i64 ((rd_T34 y459 x72_2).f1), .int .i64 ((rd_T34 y459 x72_2).f2), .int .i64 ((rd_T34 y459 x72_2).f3.f0), .int .i64 ((rd_T34 y459 x72_2).f3.f1), .int .i64 ((rd_T34 y459 x72_2).f3.f2), .int .i64 ((rd_T34 y459 x72_2).f3.f3)] from (k34_mkM _ _ _ (⟨(rd_T34 y459 x72_2).f0, (rd_T34 y459 x72_2).f1, (rd_T34 y459 x72_2).f2, (⟨(rd_T34 y459 x72_2).f3.f0, (rd_T34 y459 x72_2).f3.f1, (rd_T34 y459 x72_2).f3.f2, (rd_T34 y459 x72_2).f3.f3⟩ : S23)⟩ : S34) )) (Reps.none _ _)))); intro v474 w40 ho41 hb hg_ hnew_; clear hg_ hnew_; (first | rw [← Ny473.out] at ho41 | (simp only [Int.reduceToNat] at ho41; rw [← Ny473.out] at ho41)); have n0_ := Aside0.mk (Kd.R_elder' (by (with_reducible repeat (first | apply Kd.R_alloc | apply Kd.R_drewN | apply Kd.R_drew)); exact HO_70.out) (Kd.R_base ho41) hb); have n1_ := Aside0.mk (Kd.R_elder' (by (with_reducible repeat (first | apply Kd.R_alloc | apply Kd.R_drewN | apply Kd.R_drew)); exact HO471.out) (Kd.R_base ho41) hb); have n2_ := Aside0.mk (Kd.R_lower (Kd.R_newB (Kd.R_new' (Kd.R_new' ho41 (Kd.R_lt (by (with_reducible repeat (first | apply Kd.R_alloc | apply Kd.R_drewN | apply Kd.R_drew)); exact HO_70.out))) (Kd.R_lt (by (with_reducible repeat (first | apply Kd.R_alloc | apply Kd.R_drewN | apply Kd.R_drew)); exact HO471.out))) (g := gb468) (o := .cells #[.int .i64 ((rd_T34 y459 x72_2).f0), .int .i64 ((rd_T34 y459 x72_2).f1), .int .i64 ((rd_T34 y459 x72_2).f2), .int .i64 ((rd_T34 y459 x72_2).f3.f0), .int .i64 ((rd_T34 y459 x72_2).f3.f1), .int .i64 ((rd_T34 y459 x72_2).f3.f2), .int .i64 ((rd_T34 y459 x72_2).f3.f3)] 34 (0, 0)) (by (with_reducible repeat (first | refine blk_drewN ?_ _ | refine blk_drew ?_ | refine blk_alloc ?_ _)); exact BK468.out)) (below_size (by repeat (first | (with_reducible first | exact HB.out | apply below_alloc | apply pw_below_drewN | apply below_drew1 | refine below_set ?_ GE468.out) | exact HB.out)))); have n3_ := Aside0.mk (blk_below (g := gb468) (o := .cells #[.int .i64 ((rd_T34 y459 x72_2).f0), .int .i64 ((rd_T34 y459 x72_2).f1), .int .i64 ((rd_T34 y459 x72_2).f2), .int .i64 ((rd_T34 y459 x72_2).f3.f0), .int .i64 ((rd_T34 y459 x72_2).f3.f1), .int .i64 ((rd_T34 y459 x72_2).f3.f2), .int .i64 ((rd_T34 y459 x72_2).f3.f3)] 34 (0, 0)) (by (with_reducible repeat (first | refine blk_drewN ?_ _ | refine blk_drew ?_ | refine blk_alloc ?_ _)); exact BK468.out) hb); have n4_ := Aside0.mk (below_step (by repeat (first | (with_reducible first | exact HB.out | apply below_alloc | apply pw_below_drewN | apply below_drew1 | refine below_set ?_ GE468.out) | exact HB.out)) hb); clear HO_70; clear HO471; clear BK468; clear HB; have HO_70 := n0_; have HO471 := n1_; have HO475 := n2_; have BK468 := n3_; have HB := n4_; clear n0_ n1_ n2_ n3_ n4_; clear hb ho41; obtain ⟨Ao42, co42, eo42⟩ := Kd.R_slice HO475.out; subst eo42) | (go_at_call 26; (with_reducible refine (mutoscopelaw5_same.calls k2 _ _ y473 0 0 true _ ?side1 ?side2 A31.out).mono ?_); (case side1 => repeat (first | exact (Kd.R_reads' HO475.out).2.2 | (with_reducible refine Kd.C_alloc ?_ _) | (with_reducible refine Kd.C_drewN ?_ _) | (with_reducible refine Kd.C_drew ?_))); (case side2 => exact (Kd.R_reads' HO475.out).2.1); rintro e w43 ⟨rfl, hb⟩; have n0_ := Aside0.mk (Kd.R_below (by (with_reducible repeat (first | apply Kd.R_alloc | apply Kd.R_drewN | apply Kd.R_drew)); exact HO_70.out) hb); have n1_ := Aside0.mk (Kd.R_below (by (with_reducible repeat (first | apply Kd.R_alloc | apply Kd.R_drewN | apply Kd.R_drew)); exact HO471.out) hb); have n2_ := Aside0.mk (Kd.R_below (by (with_reducible repeat (first | apply Kd.R_alloc | apply Kd.R_drewN | apply Kd.R_drew)); exact HO475.out) hb); have n3_ := Aside0.mk (blk_below (g := gb468) (o := .cells #[.int .i64 ((rd_T34 y459 x72_2).f0), .int .i64 ((rd_T34 y459 x72_2).f1), .int .i64 ((rd_T34 y459 x72_2).f2), .int .i64 ((rd_T34 y459 x72_2).f3.f0), .int .i64 ((rd_T34 y459 x72_2).f3.f1), .int .i64 ((rd_T34 y459 x72_2).f3.f2), .int .i64 ((rd_T34 y459 x72_2).f3.f3)] 34 (0, 0)) (by (with_reducible repeat (first | refine blk_drewN ?_ _ | refine blk_drew ?_ | refine blk_alloc ?_ _)); exact BK468.out) hb); have n4_ := Aside0.mk (below_step (by repeat (first | (with_reducible first | exact HB.out | apply below_alloc | apply pw_below_drewN | apply below_drew1 | refine below_set ?_ GE468.out) | exact HB.out)) hb); clear HO_70; clear HO471; clear HO475; clear BK468; clear HB; have HO_70 := n0_; have HO471 := n1_; have HO475 := n2_; have BK468 := n3_; have HB := n4_; clear n0_ n1_ n2_ n3_ n4_; (try clear hb); (try clear hb2); (try clear hk); (try clear hi)))
           go_roundg k2
           case measure => have := HK1.out; have := HK2.out; omega
           case rel => exact ⟨(wrap64 (x72_2 + 1)), (by first | rfl | (simp; done) | (simp [*]; done)), H', ⟨by have := HK1.out; have := HK2.out; omega⟩, ⟨by (with_reducible repeat (first | apply Kd.R_alloc | apply Kd.R_drewN | apply Kd.R_drew)); exact Kd.R_mono HO_70.out (fun _ hk => trivial)⟩, ⟨by repeat (first | (with_reducible first | exact HB.out | apply below_alloc | apply pw_below_drewN | apply below_drew1 | refine below_set ?_ GE468.out) | exact HB.out)⟩⟩
          ·replace c32 := Bool.eq_false_iff.mpr c32
           subst c32
           have H1 : (none) = some r := by rw [if_neg (show ¬ (false = true) by decide)] at H; exact H
           clear H
           have H := H1
           clear H1
           exact absurd H (by simp)
         ·replace c30 := Bool.eq_false_iff.mpr c30
          subst c30
          have H1 : (none) = some r := by rw [if_neg (show ¬ (false = true) by decide)] at H; exact H
          clear H
          have H := H1
          clear H1
          exact absurd H (by simp)
        ·rw [if_neg c28] at H
         exact absurd H (by simp)
       ·rw [if_neg c27] at H
        exact absurd H (by simp)
      ·rw [if_neg c26] at H
       have c26b0 : decide (x72_2 < (y459.length : Int)) = false := decide_eq_false c26
       clear c26
       by_cases c44 : 33 ≤ 5026338869833
       ·rw [if_pos c44] at H
        have c44b0 := eq_true c44
        have c44b1 : decide (33 ≤ 5026338869833) = true := decide_eq_true c44
        clear c44
        obtain ⟨y462, hy462⟩ : ∃ y_ : List (S34), y_ = (List.replicate 33 z34) := ⟨_, rfl⟩
        replace H : ((mutoscopelaw5_same.f k2 y462 0 0).bind fun t465 => (if t465 = true then ((mutoscopelaw5_known.f k2).bind fun t466 => (some t466)) else (none))) = some r := by first | (rw [hy462]; with_reducible exact H) | (have H2_ := (Option.bind_some _ _).symm.trans H; rw [hy462]; with_reducible exact H2_) | (have H2_ := (Option.bind_some _ _).symm.trans H; with_reducible exact H2_) | with_reducible exact H | (rw [hy462]; exact H) | exact H
        have Ny462 := Aside0.mk hy462
        clear hy462
        replace H := Option.bind_eq_some_iff.mp H
        obtain ⟨t465, A450, H⟩ := H
        replace H : (if t465 = true then ((mutoscopelaw5_known.f k2).bind fun t466 => (some t466)) else (none)) = some r := H
        have A45 := Aside0.mk A450
        clear A450
        by_cases c46 : t465 = true
        ·subst c46
         have H1 : ((mutoscopelaw5_known.f k2).bind fun t466 => (some t466)) = some r := by rw [if_pos rfl] at H; exact H
         clear H
         have H := H1
         clear H1
         replace H := Option.bind_eq_some_iff.mp H
         obtain ⟨t466, A470, H⟩ := H
         replace H : (some t466) = some r := H
         have A47 := Aside0.mk A470
         clear A470
         obtain rfl := Option.some.inj H
         go_wp2_with (first | ((with_reducible refine gate_dst (N := 88) rfl ?_); (try (refine gate_guard (by rfl) ?_; dsimp only)); refine Kd.R_make k34 _ 34 rfl (N := 88) rfl 31 _ _ rfl 33 rfl rfl Try.underlying31 (.agg #[(.int .i64 0), (.int .i64 0), (.int .i64 0), (.int .i64 0), (.int .i64 0), (.int .i64 0), (.int .i64 0)]) 56 info34 rfl (by decide) (by omega) z34 (ok := fun _ => True) (okp := fun _ => True) (k34_mkM _ _ _ z34 ) (fun _ hk => hk) trivial (by omega) (by omega) (Below.refl _ _) (Nat.le_refl _) ?_; intro v463 w48 ho49 hb hg_ hnew_; clear hg_ hnew_; (first | rw [← Ny462.out] at ho49 | (simp only [Int.reduceToNat] at ho49; rw [← Ny462.out] at ho49)); have n0_ := Aside0.mk (Kd.R_elder' (by (with_reducible repeat (first | apply Kd.R_alloc | apply Kd.R_drewN | apply Kd.R_drew)); exact HO_70.out) (Kd.R_base ho49) hb); have n1_ := Aside0.mk (Kd.R_lower (Kd.R_new' ho49 (Kd.R_lt (by (with_reducible repeat (first | apply Kd.R_alloc | apply Kd.R_drewN | apply Kd.R_drew)); exact HO_70.out))) (below_size (by repeat (first | (with_reducible first | exact HB.out | apply below_alloc | apply pw_below_drewN | apply below_drew1) | exact HB.out)))); have n2_ := Aside0.mk (below_step (by repeat (first | (with_reducible first | exact HB.out | apply below_alloc | apply pw_below_drewN | apply below_drew1) | exact HB.out)) hb); clear HO_70; clear HB; have HO_70 := n0_; have HO464 := n1_; have HB := n2_; clear n0_ n1_ n2_; clear hb ho49; obtain ⟨Ao50, co50, eo50⟩ := Kd.R_slice HO464.out; subst eo50) | ((with_reducible refine gate_callee (f := 26) rfl ?_); refine goesL_ (some 89) rfl rfl Try.func26 (by kernel_rfl) rfl #[.slice Ao50 y462.length co50, .int .i64 0, .int .i64 0] rfl (by (try simp only [List.map_toArray, List.map_cons, List.map_nil]); first | done | rfl | (simp only [List.length_drop, List.length_take]; rfl)) ?_; (with_reducible refine (mutoscopelaw5_same.calls k2 _ _ y462 0 0 true _ ?side1 ?side2 A45.out).mono ?_); (case side1 => repeat (first | exact (Kd.R_reads' HO464.out).2.2 | (with_reducible refine Kd.C_alloc ?_ _) | (with_reducible refine Kd.C_drewN ?_ _) | (with_reducible refine Kd.C_drew ?_))); (case side2 => exact (Kd.R_reads' HO464.out).2.1); rintro e w51 ⟨rfl, hb⟩; refine ⟨_, rfl, ?_⟩; have n0_ := Aside0.mk (Kd.R_below (by (with_reducible repeat (first | apply Kd.R_alloc | apply Kd.R_drewN | apply Kd.R_drew)); exact HO_70.out) hb); have n1_ := Aside0.mk (Kd.R_below (by (with_reducible repeat (first | apply Kd.R_alloc | apply Kd.R_drewN | apply Kd.R_drew)); exact HO464.out) hb); have n2_ := Aside0.mk (below_step (by repeat (first | (with_reducible first | exact HB.out | apply below_alloc | apply pw_below_drewN | apply below_drew1) | exact HB.out)) hb); clear HO_70; clear HO464; clear HB; have HO_70 := n0_; have HO464 := n1_; have HB := n2_; clear n0_ n1_ n2_; (try clear hb); (try clear hb2); (try clear hk); (try clear hi)) | (go_at_call 20; (with_reducible refine (mutoscopelaw5_known.calls k2  t466 _ A47.out).mono ?_); rintro e w52 ⟨rfl, hb⟩; have n0_ := Aside0.mk (Kd.R_below (by (with_reducible repeat (first | apply Kd.R_alloc | apply Kd.R_drewN | apply Kd.R_drew)); exact HO_70.out) hb); have n1_ := Aside0.mk (Kd.R_below (by (with_reducible repeat (first | apply Kd.R_alloc | apply Kd.R_drewN | apply Kd.R_drew)); exact HO464.out) hb); have n2_ := Aside0.mk (below_step (by repeat (first | (with_reducible first | exact HB.out | apply below_alloc | apply pw_below_drewN | apply below_drew1) | exact HB.out)) hb); clear HO_70; clear HO464; clear HB; have HO_70 := n0_; have HO464 := n1_; have HB := n2_; clear n0_ n1_ n2_; (try clear hb); (try clear hb2); (try clear hk); (try clear hi)))
         go_ret
         exact ⟨by first | rfl | (simp [errW_none, errW_some] <;> rfl) | (simp [*, errW_none, errW_some] <;> rfl), by repeat (first | (with_reducible first | exact HB.out | apply below_alloc | apply pw_below_drewN | apply below_drew1) | exact HB.out)⟩
        ·replace c46 := Bool.eq_false_iff.mpr c46
         subst c46
         have H1 : (none) = some r := by rw [if_neg (show ¬ (false = true) by decide)] at H; exact H
         clear H
         have H := H1
         clear H1
         exact absurd H (by simp)
       ·rw [if_neg c44] at H
        exact absurd H (by simp)
def mutoscopelaw5_KeyNumbers.Pure : Prop := ∃ k, mutoscopelaw5_KeyNumbers.f k  = some true
theorem mutoscopelaw5_KeyNumbers.walk (P : mutoscopelaw5_KeyNumbers.Pure)  (w : World)  :
  Calls Try.prog 11 #[] w fun e w' => e = .returned (.bool true) ∧ Below w.heap.size w w' := by
 obtain ⟨k, h⟩ := P  
 refine (mutoscopelaw5_KeyNumbers.calls k  true w h).mono ?_
 rintro e w' ⟨rfl, hd⟩
 exact ⟨rfl, hd⟩
end Go.Proofs.Ytejnbjclcdmopaa.PA
end

section
set_option linter.unusedVariables false
namespace Go.Proofs.Ytejnbjclcdmopaa.MB
open Go.RowKit
theorem w64 {x : Int} (h : -9223372036854775808 ≤ x) (h' : x ≤ 9223372036854775807) : wrap64 x = x := by unfold wrap64; omega
theorem u64w (x : Int) : IntKind.u64.wrap x = x % 18446744073709551616 := by simp [IntKind.wrap, IntKind.bits, IntKind.signed]
theorem u64id {x : Int} (h : 0 ≤ x) (h' : x < 18446744073709551616) : IntKind.u64.wrap x = x := by rw [u64w]; omega
theorem and_low (k : IntKind) (j : Nat) (hj : j < k.bits) (hk : ∀ n : Int, 0 ≤ n → n < 2 ^ j → k.wrap n = n) (a : Int) :
    bits .and k a (2 ^ j - 1) = a % 2 ^ j := by
  have hpos : 0 < 2 ^ j := Nat.two_pow_pos j
  have hc : ((2 : Int) ^ j - 1) = ((2 ^ j - 1 : Nat) : Int) := by
    rw [Int.natCast_sub hpos]; simp
  have hp : 2 ^ j ≤ 2 ^ k.bits := Nat.pow_le_pow_right (by decide) (Nat.le_of_lt hj)
  have hm : (2 ^ j - 1) % 2 ^ k.bits = 2 ^ j - 1 := Nat.mod_eq_of_lt (by omega)
  rw [hc]
  simp only [bits, BitVec.ofInt_natCast, BitVec.toNat_and, BitVec.toNat_ofNat, hm, BitVec.toNat_ofInt]
  rw [Nat.and_two_pow_sub_one_eq_mod]
  have hn : 0 ≤ a % (2 ^ k.bits : Int) := Int.emod_nonneg _ (by have := Int.pow_pos (n := 2) (m := k.bits) (by decide); omega)
  have hd : ((2 : Int) ^ j) ∣ 2 ^ k.bits := ⟨2 ^ (k.bits - j), by rw [← Int.pow_add]; congr 1; omega⟩
  have he : ((((a % ((2 ^ k.bits : Nat) : Int)).toNat % 2 ^ j : Nat)) : Int) = a % 2 ^ j := by
    rw [Int.natCast_emod, Int.toNat_of_nonneg (by rw [Int.natCast_pow]; exact hn)]
    rw [Int.natCast_pow, Int.natCast_pow]
    exact Int.emod_emod_of_dvd a hd
  have hlo := Int.emod_nonneg a (b := (2 : Int) ^ j) (by have := Int.pow_pos (n := 2) (m := j) (by decide); omega)
  have hhi := Int.emod_lt_of_pos a (b := (2 : Int) ^ j) (Int.pow_pos (by decide))
  rw [hk _ (Int.natCast_nonneg _) (by rw [he]; exact hhi), he]
theorem and32u (a : Int) : bits .and .u64 a 4294967295 = a % 4294967296 := and_low .u64 32 (by decide) (fun n h h' => by rw [u64w]; omega) a
theorem mul64_parts (x y x1 x0 y1 y0 : Int) (hx : x = x1 * 4294967296 + x0) (hy : y = y1 * 4294967296 + y0) (h1 : 0 ≤ x1 ∧ x1 < 4294967296) (h2 : 0 ≤ x0 ∧ x0 < 4294967296) (h3 : 0 ≤ y1 ∧ y1 < 4294967296) (h4 : 0 ≤ y0 ∧ y0 < 4294967296) :
    IntKind.u64.wrap ((IntKind.u64.wrap ((IntKind.u64.wrap (x1 * y1)) + ((IntKind.u64.wrap ((IntKind.u64.wrap (x1 * y0)) + ((IntKind.u64.wrap (x0 * y0)) / 4294967296))) / 4294967296))) + ((IntKind.u64.wrap (((IntKind.u64.wrap ((IntKind.u64.wrap (x1 * y0)) + ((IntKind.u64.wrap (x0 * y0)) / 4294967296))) % 4294967296) + (IntKind.u64.wrap (x0 * y1)))) / 4294967296)) = x * y / 18446744073709551616 := by
  have bd : ∀ p q : Int, 0 ≤ p ∧ p < 4294967296 → 0 ≤ q ∧ q < 4294967296 → 0 ≤ p * q ∧ p * q ≤ 18446744065119617025 := fun p q ⟨a, b⟩ ⟨c, d⟩ =>
    ⟨Int.mul_nonneg a c, Int.le_trans (Int.mul_le_mul_of_nonneg_left (show q ≤ 4294967295 by omega) a) (by omega)⟩
  obtain ⟨a1, b1⟩ := bd x1 y1 h1 h3
  obtain ⟨a2, b2⟩ := bd x1 y0 h1 h4
  obtain ⟨a3, b3⟩ := bd x0 y1 h2 h3
  obtain ⟨a4, b4⟩ := bd x0 y0 h2 h4
  have e : x * y = x1 * y1 * 18446744073709551616 + (x1 * y0 + x0 * y1) * 4294967296 + x0 * y0 := by
    subst hx hy
    grind
  generalize x1 * y1 = p11 at *
  generalize x1 * y0 = p10 at *
  generalize x0 * y1 = p01 at *
  generalize x0 * y0 = p00 at *
  simp only [u64w]
  rw [e]
  omega
def cl (a lo hi : Int) : Int := if a < lo then lo else if a > hi then hi else a
def hd (a : Int) : Int := cl a (-1099511627776) 1099511627776
def mul (a b : Int) : Int := hd (hd a * hd b / 65536)
def add (a b : Int) : Int := hd (hd a + hd b)
theorem hd_bd (a : Int) : -1099511627776 ≤ hd a ∧ hd a ≤ 1099511627776 := by unfold hd cl; split <;> (try split) <;> omega
theorem hd_of {a : Int} (h : -1099511627776 ≤ a) (h' : a ≤ 1099511627776) : hd a = a := by unfold hd cl; rw [if_neg (by omega), if_neg (by omega)]
theorem hd_hi {a : Int} (h : 1099511627776 ≤ a) : hd a = 1099511627776 := by unfold hd cl; rw [if_neg (by omega)]; split <;> omega
theorem hd_lo {a : Int} (h : a ≤ -1099511627776) : hd a = -1099511627776 := by unfold hd cl; split <;> (try split) <;> omega
theorem cl_bd (a lo hi : Int) (h : lo ≤ hi) : lo ≤ cl a lo hi ∧ cl a lo hi ≤ hi := by unfold cl; split <;> (try split) <;> omega
theorem mul_bd (a b : Int) : -1099511627776 ≤ mul a b ∧ mul a b ≤ 1099511627776 := hd_bd _
theorem prod_bd (a b : Int) (ha : -1099511627776 ≤ a ∧ a ≤ 1099511627776) (hb : -1099511627776 ≤ b ∧ b ≤ 1099511627776) : -1208925819614629174706176 ≤ a * b ∧ a * b ≤ 1208925819614629174706176 := by
  obtain ⟨a1, a2⟩ := ha
  obtain ⟨b1, b2⟩ := hb
  have h1 : 0 ≤ (1099511627776 - a) * (1099511627776 + b) := Int.mul_nonneg (by omega) (by omega)
  have h2 : 0 ≤ (1099511627776 + a) * (1099511627776 - b) := Int.mul_nonneg (by omega) (by omega)
  have h3 : 0 ≤ (1099511627776 - a) * (1099511627776 - b) := Int.mul_nonneg (by omega) (by omega)
  have h4 : 0 ≤ (1099511627776 + a) * (1099511627776 + b) := Int.mul_nonneg (by omega) (by omega)
  simp only [Int.add_mul, Int.sub_mul, Int.mul_add, Int.mul_sub] at h1 h2 h3 h4
  omega
def Evt (p : Nat → Prop) : Prop := ∃ n, ∀ k, n ≤ k → p k
theorem Evt.of {p : Nat → Prop} (n : Nat) (h : ∀ k, n ≤ k → p k) : Evt p := ⟨n, h⟩
theorem Evt.all {p : Nat → Prop} (h : ∀ k, p k) : Evt p := ⟨0, fun k _ => h k⟩
theorem Evt.mono {p q : Nat → Prop} (h : Evt p) (hq : ∀ k, p k → q k) : Evt q := h.elim fun n hn => ⟨n, fun k hk => hq k (hn k hk)⟩
theorem Evt.and {p q : Nat → Prop} (h : Evt p) (hq : Evt q) : Evt fun k => p k ∧ q k := by
  obtain ⟨n, hn⟩ := h
  obtain ⟨m, hm⟩ := hq
  exact ⟨max n m, fun k hk => ⟨hn k (by omega), hm k (by omega)⟩⟩
theorem Evt.succ {p q : Nat → Prop} (h : Evt p) (hq : ∀ k, p k → q (k + 1)) : Evt q := by
  obtain ⟨n, hn⟩ := h
  refine ⟨n + 1, fun k hk => ?_⟩
  obtain ⟨m, rfl⟩ : ∃ m, k = m + 1 := ⟨k - 1, by omega⟩
  exact hq m (hn m (by omega))
theorem Evt.ex {p : Nat → Prop} (h : Evt p) : ∃ k, p k := h.elim fun n hn => ⟨n, hn n (Nat.le_refl n)⟩
end Go.Proofs.Ytejnbjclcdmopaa.MB
end

section
set_option linter.unusedVariables false
namespace Go.Proofs.Ytejnbjclcdmopaa.PA
open Go.RowKit Go.Proofs.YtejnbjclcdmopaaW.PrintWords Go.Proofs.YtejnbjclcdmopaaW.PrintLast Go.Proofs.YtejnbjclcdmopaaW.PrintMore Go.Proofs.Ytejnbjclcdmopaa.MB
theorem q_Clamp_eq (a lo hi : Int) : q_Clamp.f a lo hi = some (cl a lo hi) := by
  unfold q_Clamp.f cl; split
  · rfl
  · split <;> rfl
theorem q_Hold_eq (a : Int) : q_Hold.f a = some (hd a) := by unfold q_Hold.f; rw [q_Clamp_eq]; rfl
theorem q_Add_eq (a b : Int) : q_Add.f a b = some (add a b) := by
  unfold q_Add.f
  simp only [q_Hold_eq, Option.bind_some]
  have h1 := hd_bd a
  have h2 := hd_bd b
  rw [w64 (by omega) (by omega)]; rfl
theorem bits_Mul64_eq (x y : Int) (hx : 0 ≤ x ∧ x < 18446744073709551616) (hy : 0 ≤ y ∧ y < 18446744073709551616) :
    bits_Mul64.f x y = some (x * y / 18446744073709551616, x * y % 18446744073709551616) := by
  unfold bits_Mul64.f
  simp only [and32u]
  rw [mul64_parts x y (x / 4294967296) (x % 4294967296) (y / 4294967296) (y % 4294967296) (by omega) (by omega) (by omega) (by omega) (by omega) (by omega), u64w (x * y)]
theorem q_product_eq (a b : Int) (ha : -9223372036854775808 ≤ a ∧ a ≤ 9223372036854775807) (hb : -9223372036854775808 ≤ b ∧ b ≤ 9223372036854775807) :
    q_product.f a b = some ((a * b / 18446744073709551616) % 18446744073709551616, a * b % 18446744073709551616) := by
  unfold q_product.f
  simp only [u64w]
  rw [bits_Mul64_eq _ _ (by omega) (by omega)]
  simp only [Option.bind_some]
  by_cases h1 : a < 0
  · have ea : a % 18446744073709551616 = a + 18446744073709551616 := by omega
    by_cases h2 : b < 0
    · have eb : b % 18446744073709551616 = b + 18446744073709551616 := by omega
      rw [if_pos h1, if_pos h2, ea, eb]
      have e : (a + 18446744073709551616) * (b + 18446744073709551616) = a * b + a * 18446744073709551616 + b * 18446744073709551616 + 340282366920938463463374607431768211456 := by grind
      rw [e]; generalize a * b = p; congr 2 <;> omega
    · have eb : b % 18446744073709551616 = b := by omega
      rw [if_pos h1, if_neg h2, ea, eb]
      have e : (a + 18446744073709551616) * b = a * b + b * 18446744073709551616 := by grind
      rw [e]; generalize a * b = p; congr 2 <;> omega
  · have ea : a % 18446744073709551616 = a := by omega
    by_cases h2 : b < 0
    · have eb : b % 18446744073709551616 = b + 18446744073709551616 := by omega
      rw [if_neg h1, if_pos h2, ea, eb]
      have e : a * (b + 18446744073709551616) = a * b + a * 18446744073709551616 := by grind
      rw [e]; generalize a * b = p; congr 2 <;> omega
    · have eb : b % 18446744073709551616 = b := by omega
      rw [if_neg h1, if_neg h2, ea, eb]
      have hp : 0 ≤ a * b := Int.mul_nonneg (by omega) (by omega)
      have hp2 : a * b ≤ 9223372036854775807 * 9223372036854775807 := Int.mul_le_mul ha.2 hb.2 (by omega) (by omega)
      generalize a * b = p at *; congr 2; omega
theorem or48 (x y : Int) (hx : 0 ≤ x) (hy : 0 ≤ y ∧ y < 281474976710656) : Go.bits .or .u64 (IntKind.u64.wrap (x * 281474976710656)) y = (x * 281474976710656) % 18446744073709551616 + y := by
  rw [u64w]
  exact bits_join .u64 64 (by decide) (fun n h h' => by rw [u64w]; omega) 48 _ y (by omega) (by omega) (by omega) hy.1 (by omega) (by omega)
theorem q_down_eq (k : Nat) (p : Int) (hp : -1208925819614629174706176 ≤ p ∧ p ≤ 1208925819614629174706176) :
    ∃ r, q_down.f (k + 1) ((p / 18446744073709551616) % 18446744073709551616) (p % 18446744073709551616) = some r ∧ hd r = hd (p / 65536) := by
  unfold q_down.f
  rw [or48 _ _ (by omega) (by omega)]
  generalize hw : wrap64 (p / 18446744073709551616 % 18446744073709551616) = t
  have ht : t = p / 18446744073709551616 := by rw [← hw]; unfold wrap64; omega
  generalize hv : (p / 18446744073709551616 % 18446744073709551616 * 281474976710656) % 18446744073709551616 + p % 18446744073709551616 / 65536 = v
  have hv' : v = (p / 65536) % 18446744073709551616 := by rw [← hv]; omega
  clear hv hw
  have h1 : ¬ t / 65536 < -1 := by omega
  rw [if_neg h1]
  by_cases h2 : t / 65536 = -1
  · rw [if_pos h2]
    by_cases h3 : v / 9223372036854775808 = 0
    · have e : ((v / 9223372036854775808) == 0) = true := by simpa using h3
      rw [e]; simp only [q_down.j0, if_true]
      exact ⟨_, rfl, by rw [hd_lo (by omega), hd_lo (by omega)]⟩
    · have e : ((v / 9223372036854775808) == 0) = false := by simpa using h3
      rw [e]; simp only [q_down.j0]
      rw [if_neg (by decide), if_neg (by omega), if_neg (by omega)]
      exact ⟨_, rfl, by congr 1; unfold wrap64; omega⟩
  · rw [if_neg h2]; simp only [q_down.j0]
    rw [if_neg (by decide)]
    by_cases h4 : t / 65536 > 0
    · rw [if_pos h4]; exact ⟨_, rfl, by rw [hd_hi (by omega), hd_hi (by omega)]⟩
    · rw [if_neg h4, if_pos (by omega)]
      by_cases h3 : v / 9223372036854775808 = 0
      · rw [if_pos h3]; exact ⟨_, rfl, by congr 1; unfold wrap64; omega⟩
      · rw [if_neg h3]; exact ⟨_, rfl, by rw [hd_hi (by omega), hd_hi (by omega)]⟩
theorem q_Mul_eq (k : Nat) (a b : Int) : q_Mul.f (k + 1) a b = some (mul a b) := by
  unfold q_Mul.f
  simp only [q_Hold_eq, Option.bind_some]
  have h1 := hd_bd a
  have h2 := hd_bd b
  rw [q_product_eq _ _ (by omega) (by omega)]
  simp only [Option.bind_some]
  obtain ⟨r, e, h⟩ := q_down_eq k _ (prod_bd _ _ h1 h2)
  rw [e]; simp only [Option.bind_some]
  rw [h]; rfl
theorem q_Mul_ge {k : Nat} (hk : 1 ≤ k) (a b : Int) : q_Mul.f k a b = some (mul a b) := by
  obtain ⟨m, rfl⟩ : ∃ m, k = m + 1 := ⟨k - 1, by omega⟩
  exact q_Mul_eq m a b
end Go.Proofs.Ytejnbjclcdmopaa.PA
end

section
set_option linter.unusedVariables false
namespace Go.Proofs.Ytejnbjclcdmopaa.PA
open Go.RowKit Go.Proofs.YtejnbjclcdmopaaW.PrintWords Go.Proofs.YtejnbjclcdmopaaW.PrintLast Go.Proofs.YtejnbjclcdmopaaW.PrintMore Go.Proofs.Ytejnbjclcdmopaa.MB
theorem r1_Clamp_eq (a lo hi : Int) : mutoscoperef1_Clamp.f a lo hi = some (cl a lo hi) := by
  unfold mutoscoperef1_Clamp.f cl; split
  · rfl
  · split <;> rfl
theorem r1_Hold_eq (a : Int) : mutoscoperef1_Hold.f a = some (hd a) := by unfold mutoscoperef1_Hold.f; rw [r1_Clamp_eq]; rfl
theorem r1_Add_eq (a b : Int) : mutoscoperef1_Add.f a b = some (add a b) := by
  unfold mutoscoperef1_Add.f
  simp only [r1_Hold_eq, Option.bind_some]
  have h1 := hd_bd a
  have h2 := hd_bd b
  rw [w64 (by omega) (by omega)]; rfl
theorem lz16 (k : Nat) : bits_LeadingZeros64.f (k + 1) 65536 = some 47 := by kernel_rfl
theorem shl47 (x : Int) : shl .u64 x 47 = (x * 140737488355328) % 18446744073709551616 := by
  unfold shl; rw [u64w]; rfl
theorem shr17 (x : Int) : shr .u64 x 17 = x / 131072 := rfl
theorem shr47 (x : Int) : shr .u64 x 47 = x / 140737488355328 := rfl
theorem or47 (x y : Int) (hx : 0 ≤ x ∧ x < 65536) (hy : 0 ≤ y ∧ y < 140737488355328) : Go.bits .or .u64 (x * 140737488355328) y = x * 140737488355328 + y :=
  bits_join .u64 64 (by decide) (fun n h h' => by rw [u64w]; omega) 47 _ y (by omega) (by omega) (by omega) hy.1 (by omega) (by omega)
theorem tdiv_nn {a b : Int} (ha : 0 ≤ a) : Int.tdiv a b = a / b := Int.tdiv_eq_ediv_of_nonneg ha
theorem tmod_nn {a b : Int} (ha : 0 ≤ a) : Int.tmod a b = a % b := Int.tmod_eq_emod_of_nonneg ha
theorem div64_one (k : Nat) (hi lo : Int) (h1 : 0 ≤ hi ∧ hi < 65536) (h2 : 0 ≤ lo ∧ lo < 18446744073709551616) :
    bits_Div64.f (k + 5) hi lo 65536 = some ((hi * 18446744073709551616 + lo) / 65536, (hi * 18446744073709551616 + lo) % 65536) := by
  unfold bits_Div64.f
  rw [if_neg (by decide), if_neg (by omega)]
  by_cases h0 : hi = 0
  · rw [if_pos h0, tdiv_nn h2.1, tmod_nn h2.1, u64id (by omega) (by omega), h0]; congr 2 <;> omega
  · rw [if_neg h0, lz16]
    simp only [Option.bind_some]
    rw [show IntKind.u64.wrap 47 = 47 from by decide, if_pos (by decide), show IntKind.u64.wrap (64 - 47) = 17 from by decide, if_pos (by decide)]
    rw [shl47, shl47, shl47, shr17, show (65536 * 140737488355328 % 18446744073709551616 : Int) = 9223372036854775808 from by decide, show (9223372036854775808 / 4294967296 : Int) = 2147483648 from by decide]
    rw [if_neg (by decide), and32u, and32u, show (9223372036854775808 % 4294967296 : Int) = 0 from by decide, show hi * 140737488355328 % 18446744073709551616 = hi * 140737488355328 from by omega, or47 _ _ h1 (by omega)]
    have hu : 0 ≤ hi * 140737488355328 + lo / 131072 ∧ hi * 140737488355328 + lo / 131072 < 9223372036854775808 := by omega
    generalize hu' : hi * 140737488355328 + lo / 131072 = u at hu ⊢
    rw [tdiv_nn hu.1, u64id (x := u / 2147483648) (by omega) (by omega), u64id (x := u / 2147483648 * 2147483648) (by omega) (by omega), u64id (x := u - u / 2147483648 * 2147483648) (by omega) (by omega)]
    simp only [bits_Div64.l0]
    rw [if_neg (by omega)]
    rw [show decide (IntKind.u64.wrap (u / 2147483648 * 0) > IntKind.u64.wrap (IntKind.u64.wrap (4294967296 * (u - u / 2147483648 * 2147483648)) + lo * 140737488355328 % 18446744073709551616 / 4294967296)) = false from by simp only [u64w]; apply decide_eq_false; omega]
    simp only [bits_Div64.j1]
    rw [if_neg (by decide)]
    simp only [bits_Div64.j2]
    rw [if_neg (by decide)]
    rw [show IntKind.u64.wrap (IntKind.u64.wrap (IntKind.u64.wrap (u * 4294967296) + lo * 140737488355328 % 18446744073709551616 / 4294967296) - IntKind.u64.wrap (u / 2147483648 * 9223372036854775808)) = (u % 2147483648) * 4294967296 + lo * 140737488355328 % 18446744073709551616 / 4294967296 from by simp only [u64w]; omega]
    have hv : 0 ≤ (u % 2147483648) * 4294967296 + lo * 140737488355328 % 18446744073709551616 / 4294967296 ∧ (u % 2147483648) * 4294967296 + lo * 140737488355328 % 18446744073709551616 / 4294967296 < 9223372036854775808 := by omega
    generalize hv' : (u % 2147483648) * 4294967296 + lo * 140737488355328 % 18446744073709551616 / 4294967296 = v at hv ⊢
    rw [tdiv_nn hv.1, u64id (x := v / 2147483648) (by omega) (by omega), u64id (x := v / 2147483648 * 2147483648) (by omega) (by omega), u64id (x := v - v / 2147483648 * 2147483648) (by omega) (by omega)]
    simp only [bits_Div64.l1]
    rw [if_neg (by omega)]
    rw [show decide (IntKind.u64.wrap (v / 2147483648 * 0) > IntKind.u64.wrap (IntKind.u64.wrap (4294967296 * (v - v / 2147483648 * 2147483648)) + lo * 140737488355328 % 18446744073709551616 % 4294967296)) = false from by simp only [u64w]; apply decide_eq_false; omega]
    simp only [bits_Div64.j4]
    rw [if_neg (by decide), if_pos (by decide), shr47]
    simp only [u64w]
    congr 2 <;> omega
theorem r1_size_eq (a : Int) (h : -1099511627776 ≤ a ∧ a ≤ 1099511627776) : mutoscoperef1_size.f a = some (if a < 0 then -a else a, decide (a < 0)) := by
  unfold mutoscoperef1_size.f
  by_cases h0 : a < 0
  · rw [if_pos h0, if_pos h0, w64 (by omega) (by omega), u64id (by omega) (by omega), decide_eq_true h0]
  · rw [if_neg h0, if_neg h0, u64id (by omega) (by omega), decide_eq_false h0]
theorem r1_down_eq (k : Nat) (hi lo : Int) (m : Bool) (h1 : 0 ≤ hi ∧ hi ≤ 65536) (h2 : 0 ≤ lo ∧ lo < 18446744073709551616) :
    mutoscoperef1_down.f (k + 5) hi lo 65536 m = some (hd ((if m = true then -(hi * 18446744073709551616 + lo) else hi * 18446744073709551616 + lo) / 65536)) := by
  unfold mutoscoperef1_down.f
  by_cases h0 : hi ≥ 65536
  · rw [if_pos h0]
    cases m
    · rw [if_neg (by decide), if_neg (by decide), hd_hi (by omega)]
    · rw [if_pos rfl, if_pos rfl, hd_lo (by omega)]
  · rw [if_neg h0, div64_one k hi lo (by omega) h2]
    simp only [Option.bind_some]
    generalize hp : hi * 18446744073709551616 + lo = p
    have hp0 : 0 ≤ p ∧ p < 1208925819614629174706176 := by omega
    clear hp
    have key : ∀ (x : Int) (b m : Bool), mutoscoperef1_down.j0 (k + 5) m x b = some (hd (wrap64 (if m = true then -(wrap64 (mn (if b = true then IntKind.u64.wrap (x + 1) else x) 4611686018427387904)) else (mn (if b = true then IntKind.u64.wrap (x + 1) else x) 4611686018427387904)))) := by
      intro x b m
      have ww : ∀ z : Int, wrap64 (wrap64 z) = wrap64 z := fun z => by unfold wrap64; omega
      cases b <;> cases m <;> simp [mutoscoperef1_down.j0, r1_Hold_eq]
    cases m
    · rw [if_neg (by decide), if_neg (by decide), key]
      simp only [Bool.false_eq_true, if_false]
      congr 1
      unfold mn
      split
      · rw [show wrap64 4611686018427387904 = 4611686018427387904 from w64 (by decide) (by decide), hd_hi (by omega), hd_hi (by omega)]
      · rw [w64 (by omega) (by omega)]
    · rw [if_pos rfl, if_pos rfl]
      by_cases hr : p % 65536 > 0
      · rw [if_pos hr, key]
        congr 1
        simp only [if_true]
        by_cases hb : p / 65536 < 4611686018427387904
        · rw [decide_eq_true hb, if_pos rfl, u64id (by omega) (by omega)]
          unfold mn
          rw [if_neg (by omega), w64 (x := p / 65536 + 1) (by omega) (by omega), w64 (by omega) (by omega)]
          congr 1; omega
        · rw [decide_eq_false hb, if_neg (by decide)]
          have e : mn (p / 65536) 4611686018427387904 = 4611686018427387904 := by unfold mn; split <;> omega
          rw [e, show wrap64 4611686018427387904 = 4611686018427387904 from w64 (by decide) (by decide), show wrap64 (-4611686018427387904) = -4611686018427387904 from w64 (by decide) (by decide), hd_lo (by omega), hd_lo (by omega)]
      · rw [if_neg hr, key]
        congr 1
        simp only [if_true, Bool.false_eq_true, if_false]
        unfold mn
        split
        · rw [show wrap64 4611686018427387904 = 4611686018427387904 from w64 (by decide) (by decide), show wrap64 (-4611686018427387904) = -4611686018427387904 from w64 (by decide) (by decide), hd_lo (by omega), hd_lo (by omega)]
        · rw [w64 (x := p / 65536) (by omega) (by omega), w64 (by omega) (by omega)]
          congr 1; omega
theorem r1_Mul_eq (k : Nat) (a b : Int) : mutoscoperef1_Mul.f (k + 5) a b = some (mul a b) := by
  unfold mutoscoperef1_Mul.f mul
  have h1 := hd_bd a
  have h2 := hd_bd b
  simp only [r1_Hold_eq, Option.bind_some, r1_size_eq _ h1, r1_size_eq _ h2]
  generalize hd a = x at *
  generalize hd b = y at *
  have hx : 0 ≤ (if x < 0 then -x else x) ∧ (if x < 0 then -x else x) ≤ 1099511627776 := by split <;> omega
  have hy : 0 ≤ (if y < 0 then -y else y) ∧ (if y < 0 then -y else y) ≤ 1099511627776 := by split <;> omega
  have e : (if (decide (x < 0) != decide (y < 0)) = true then -((if x < 0 then -x else x) * (if y < 0 then -y else y)) else (if x < 0 then -x else x) * (if y < 0 then -y else y)) = x * y := by
    by_cases a1 : x < 0 <;> by_cases a2 : y < 0 <;> simp [a1, a2, Int.neg_mul, Int.mul_neg]
  rw [bits_Mul64_eq _ _ (by omega) (by omega)]
  simp only [Option.bind_some]
  have hb := prod_bd _ _ (And.intro (by omega : -1099511627776 ≤ (if x < 0 then -x else x)) hx.2) (And.intro (by omega : -1099511627776 ≤ (if y < 0 then -y else y)) hy.2)
  have hn := Int.mul_nonneg hx.1 hy.1
  rw [r1_down_eq k _ _ _ (by omega) (by omega)]
  simp only [Option.bind_some]
  rw [show (if x < 0 then -x else x) * (if y < 0 then -y else y) / 18446744073709551616 * 18446744073709551616 + (if x < 0 then -x else x) * (if y < 0 then -y else y) % 18446744073709551616 = (if x < 0 then -x else x) * (if y < 0 then -y else y) from by omega, e]
theorem r1_Mul_ge {k : Nat} (hk : 5 ≤ k) (a b : Int) : mutoscoperef1_Mul.f k a b = some (mul a b) := by
  obtain ⟨m, rfl⟩ : ∃ m, k = m + 5 := ⟨k - 5, by omega⟩
  exact r1_Mul_eq m a b
end Go.Proofs.Ytejnbjclcdmopaa.PA
end

section
set_option linter.unusedVariables false
namespace Go.Proofs.Ytejnbjclcdmopaa.MB
def bend (a b t : Int) : Int :=
  add (add (mul (3 * mul (mul (65536 - cl t 0 65536) (65536 - cl t 0 65536)) (cl t 0 65536)) a) (mul (3 * mul (mul (65536 - cl t 0 65536) (cl t 0 65536)) (cl t 0 65536)) b)) (mul (mul (cl t 0 65536) (cl t 0 65536)) (cl t 0 65536))
def halve : Nat → (Int → Int) → Int → Int → Int → Int
  | 0, _, _, lo, _ => lo
  | n + 1, g, x, lo, hi => if g ((lo + hi) / 2) ≤ x then halve n g x ((lo + hi) / 2) hi else halve n g x lo ((lo + hi) / 2)
def curve (x1 y1 x2 y2 x : Int) : Int := if x ≤ 0 then 0 else if x ≥ 65536 then 65536 else bend y1 y2 (halve 16 (bend x1 x2) x 0 65536)
def prt (a b t : Int) : Int := if hd t ≤ hd a then 0 else if hd t ≥ hd b then 65536 else (hd t - hd a) * 65536 / (hd b - hd a)
end Go.Proofs.Ytejnbjclcdmopaa.MB
namespace Go.Proofs.Ytejnbjclcdmopaa.PA
open Go.RowKit Go.Proofs.YtejnbjclcdmopaaW.PrintWords Go.Proofs.YtejnbjclcdmopaaW.PrintLast Go.Proofs.YtejnbjclcdmopaaW.PrintMore Go.Proofs.Ytejnbjclcdmopaa.MB
theorem ease_Bend_eq {k : Nat} (hk : 1 ≤ k) (a b t : Int) : ease_Bend.f k a b t = some (bend a b t) := by
  unfold ease_Bend.f
  have hc := cl_bd t 0 65536 (by omega)
  rw [q_Clamp_eq]
  simp only [Option.bind_some]
  rw [w64 (x := 65536 - cl t 0 65536) (by omega) (by omega)]
  simp only [q_Mul_ge hk, Option.bind_some]
  have h1 := mul_bd (mul (65536 - cl t 0 65536) (65536 - cl t 0 65536)) (cl t 0 65536)
  have h2 := mul_bd (mul (65536 - cl t 0 65536) (cl t 0 65536)) (cl t 0 65536)
  rw [w64 (by omega) (by omega), w64 (by omega) (by omega)]
  simp only [q_Add_eq, Option.bind_some]
  rfl
theorem ease_At_l0 (x1 y1 x2 y2 x : Int) : ∀ (n k : Nat) (lo hi i : Int), 0 ≤ lo → lo ≤ hi → hi ≤ 65536 → i = 16 - (n : Int) → 0 ≤ i → n + 2 ≤ k →
    ease_At.l0 k x lo hi i x1 y1 x2 y2 = some (bend y1 y2 (halve n (bend x1 x2) x lo hi)) := by
  intro n
  induction n with
  | zero =>
    intro k lo hi i h1 h2 h3 h4 h5 hk
    obtain ⟨k, rfl⟩ : ∃ m, k = m + 1 := ⟨k - 1, by omega⟩
    simp only [ease_At.l0]
    rw [if_neg (by omega), ease_Bend_eq (by omega)]
    rfl
  | succ n ih =>
    intro k lo hi i h1 h2 h3 h4 h5 hk
    obtain ⟨k, rfl⟩ : ∃ m, k = m + 1 := ⟨k - 1, by omega⟩
    simp only [ease_At.l0]
    rw [if_pos (by omega), w64 (x := lo + hi) (by omega) (by omega), ease_Bend_eq (by omega)]
    simp only [Option.bind_some, halve]
    rw [w64 (x := i + 1) (by omega) (by omega)]
    split
    · exact ih _ _ _ _ (by omega) (by omega) h3 (by omega) (by omega) (by omega)
    · exact ih _ _ _ _ h1 (by omega) (by omega) (by omega) (by omega) (by omega)
theorem ease_At_eq {k : Nat} (hk : 18 ≤ k) (x1 y1 x2 y2 x : Int) : ease_At.f k x1 y1 x2 y2 x = some (curve x1 y1 x2 y2 x) := by
  unfold ease_At.f curve
  split
  · rfl
  · split
    · rfl
    · exact ease_At_l0 x1 y1 x2 y2 x 16 k 0 65536 0 (by omega) (by omega) (by omega) (by omega) (by omega) (by omega)
theorem part_of (a b t : Int) (h1 : ¬ hd t ≤ hd a) (h2 : ¬ hd t ≥ hd b) : wrap64 (hd b - hd a) ≠ 0 ∧ wrap64 (Int.tdiv (wrap64 ((wrap64 (hd t - hd a)) * 65536)) (wrap64 (hd b - hd a))) = (hd t - hd a) * 65536 / (hd b - hd a) := by
  have ha := hd_bd a
  have hb := hd_bd b
  have ht := hd_bd t
  generalize hd a = x at *
  generalize hd b = y at *
  generalize hd t = z at *
  rw [w64 (x := y - x) (by omega) (by omega), w64 (x := z - x) (by omega) (by omega), w64 (x := (z - x) * 65536) (by omega) (by omega)]
  refine ⟨by omega, ?_⟩
  rw [Int.tdiv_eq_ediv_of_nonneg (by omega)]
  have q1 : 0 ≤ (z - x) * 65536 / (y - x) := Int.ediv_nonneg (by omega) (by omega)
  have q2 : (z - x) * 65536 / (y - x) ≤ (z - x) * 65536 := Int.ediv_le_self _ (by omega)
  exact w64 (by omega) (by omega)
theorem ease_Part_eq (a b t : Int) : ease_Part.f a b t = some (prt a b t) := by
  unfold ease_Part.f prt
  simp only [q_Hold_eq, Option.bind_some]
  by_cases h1 : hd t ≤ hd a
  · rw [if_pos h1, if_pos h1]
  · rw [if_neg h1, if_neg h1]
    by_cases h2 : hd t ≥ hd b
    · rw [if_pos h2, if_pos h2]
    · rw [if_neg h2, if_neg h2]
      obtain ⟨n, e⟩ := part_of a b t h1 h2
      rw [if_neg n, e]
theorem ease_Right_some (a b c d : Int) : ∃ r, ease_Right.f a b c d = some r := by
  have hw : ∀ x y z : Int, ∃ r, ease_Right_1.f x y z = some r := by intro x y z; unfold ease_Right_1.f; split <;> exact ⟨_, rfl⟩
  unfold ease_Right.f
  obtain ⟨r1, e1⟩ := hw a 0 65536
  obtain ⟨r2, e2⟩ := hw c 0 65536
  obtain ⟨r3, e3⟩ := hw b (-131072) 196608
  obtain ⟨r4, e4⟩ := hw d (-131072) 196608
  simp only [e1, e2, e3, e4, Option.bind_some]
  repeat (first | exact ⟨_, rfl⟩ | split)
end Go.Proofs.Ytejnbjclcdmopaa.PA
end

section
set_option linter.unusedVariables false
namespace Go.Proofs.Ytejnbjclcdmopaa.PA
open Go.RowKit Go.Proofs.YtejnbjclcdmopaaW.PrintWords Go.Proofs.YtejnbjclcdmopaaW.PrintLast Go.Proofs.YtejnbjclcdmopaaW.PrintMore Go.Proofs.Ytejnbjclcdmopaa.MB
theorem r5_Bend_eq {k : Nat} (hk : 5 ≤ k) (a b t : Int) : mutoscoperef5_Bend.f k a b t = some (bend a b t) := by
  unfold mutoscoperef5_Bend.f
  have hc := cl_bd t 0 65536 (by omega)
  rw [r1_Clamp_eq]
  simp only [Option.bind_some]
  rw [w64 (x := 65536 - cl t 0 65536) (by omega) (by omega)]
  simp only [r1_Mul_ge hk, Option.bind_some]
  have h1 := mul_bd (mul (65536 - cl t 0 65536) (65536 - cl t 0 65536)) (cl t 0 65536)
  have h2 := mul_bd (mul (65536 - cl t 0 65536) (cl t 0 65536)) (cl t 0 65536)
  rw [w64 (by omega) (by omega), w64 (by omega) (by omega)]
  simp only [r1_Add_eq, Option.bind_some]
  rfl
theorem r5_Curve_l0 (x1 y1 x2 y2 x : Int) : ∀ (n k : Nat) (lo hi i : Int), 0 ≤ lo → lo ≤ hi → hi ≤ 65536 → i = 16 - (n : Int) → 0 ≤ i → n + 6 ≤ k →
    mutoscoperef5_Curve.l0 k x lo hi i x1 y1 x2 y2 = some (bend y1 y2 (halve n (bend x1 x2) x lo hi)) := by
  intro n
  induction n with
  | zero =>
    intro k lo hi i h1 h2 h3 h4 h5 hk
    obtain ⟨k, rfl⟩ : ∃ m, k = m + 1 := ⟨k - 1, by omega⟩
    simp only [mutoscoperef5_Curve.l0]
    rw [if_neg (by omega), r5_Bend_eq (by omega)]
    rfl
  | succ n ih =>
    intro k lo hi i h1 h2 h3 h4 h5 hk
    obtain ⟨k, rfl⟩ : ∃ m, k = m + 1 := ⟨k - 1, by omega⟩
    simp only [mutoscoperef5_Curve.l0]
    rw [if_pos (by omega), w64 (x := lo + hi) (by omega) (by omega), tdiv_nn (by omega), w64 (x := (lo + hi) / 2) (by omega) (by omega), r5_Bend_eq (by omega)]
    simp only [Option.bind_some, halve]
    rw [w64 (x := i + 1) (by omega) (by omega)]
    split
    · exact ih _ _ _ _ (by omega) (by omega) h3 (by omega) (by omega) (by omega)
    · exact ih _ _ _ _ h1 (by omega) (by omega) (by omega) (by omega) (by omega)
theorem r5_Curve_eq {k : Nat} (hk : 22 ≤ k) (x1 y1 x2 y2 x : Int) : mutoscoperef5_Curve.f k x1 y1 x2 y2 x = some (curve x1 y1 x2 y2 x) := by
  unfold mutoscoperef5_Curve.f curve
  split
  · rfl
  · split
    · rfl
    · exact r5_Curve_l0 x1 y1 x2 y2 x 16 k 0 65536 0 (by omega) (by omega) (by omega) (by omega) (by omega) (by omega)
theorem r5_Part_eq (a b t : Int) : mutoscoperef5_Part.f a b t = some (prt a b t) := by
  unfold mutoscoperef5_Part.f prt
  simp only [r1_Hold_eq, Option.bind_some]
  by_cases h1 : hd t ≤ hd a
  · rw [if_pos h1, if_pos h1]
  · rw [if_neg h1, if_neg h1]
    by_cases h2 : hd t ≥ hd b
    · rw [if_pos h2, if_pos h2]
    · rw [if_neg h2, if_neg h2]
      obtain ⟨n, e⟩ := part_of a b t h1 h2
      rw [if_neg n, e]
theorem r5_Ease_eq (a b c d : Int) : mutoscoperef5_Ease.f a b c d = ease_Right.f a b c d := by
  have e : mutoscoperef5_within.f = ease_Right_1.f := rfl
  unfold mutoscoperef5_Ease.f ease_Right.f
  rw [e]
end Go.Proofs.Ytejnbjclcdmopaa.PA
end

section
set_option linter.unusedVariables false
namespace Go.Proofs.Ytejnbjclcdmopaa.PA
open Go.RowKit Go.Proofs.YtejnbjclcdmopaaW.PrintWords Go.Proofs.YtejnbjclcdmopaaW.PrintLast Go.Proofs.YtejnbjclcdmopaaW.PrintMore Go.Proofs.Ytejnbjclcdmopaa.MB
def fnd (l : List S34) (t : Int) : Nat → Int
  | 0 => -1
  | n + 1 => if (rd_T34 l n).f0 ≤ t then n else fnd l t n
def goes (how x1 y1 x2 y2 p : Int) : Int := if how = 0 then (if p ≥ 65536 then 65536 else 0) else if how = 1 then p else if how = 2 then curve x1 y1 x2 y2 p else 0
def mid (a b t : Int) : Int := add (hd a) (mul (add b (-(hd a))) t)
def kat (l : List S34) (t none : Int) : Int :=
  if (l.length : Int) = 0 then none else
  if fnd l t l.length = -1 then (rd_T34 l 0).f1 else
  if fnd l t l.length = (l.length : Int) - 1 then (rd_T34 l (fnd l t l.length)).f1 else
  mid (rd_T34 l (fnd l t l.length)).f1 (rd_T34 l (fnd l t l.length + 1)).f1
    (goes (rd_T34 l (fnd l t l.length)).f2 (rd_T34 l (fnd l t l.length)).f3.f0 (rd_T34 l (fnd l t l.length)).f3.f1 (rd_T34 l (fnd l t l.length)).f3.f2 (rd_T34 l (fnd l t l.length)).f3.f3
      (prt (rd_T34 l (fnd l t l.length)).f0 (rd_T34 l (fnd l t l.length + 1)).f0 t))
theorem fnd_bd (l : List S34) (t : Int) : ∀ n : Nat, -1 ≤ fnd l t n ∧ fnd l t n < (n : Int) := by
  intro n
  induction n with
  | zero => simp only [fnd]; omega
  | succ n ih => simp only [fnd]; split <;> omega
theorem key_Find_l0 (l : List S34) (t : Int) (hl : (l.length : Int) < 140737488355328) : ∀ (n k : Nat), n ≤ l.length → n + 1 ≤ k → key_Find.l0 k l t ((n : Int) - 1) = some (fnd l t n) := by
  intro n
  induction n with
  | zero =>
    intro k hn hk
    obtain ⟨k, rfl⟩ : ∃ m, k = m + 1 := ⟨k - 1, by omega⟩
    simp only [key_Find.l0]; rw [if_neg (by omega)]; rfl
  | succ n ih =>
    intro k hn hk
    obtain ⟨k, rfl⟩ : ∃ m, k = m + 1 := ⟨k - 1, by omega⟩
    have e : ((n + 1 : Nat) : Int) - 1 = (n : Int) := by omega
    simp only [key_Find.l0, fnd]
    rw [e, if_pos (by omega), if_pos (by omega), if_pos (by omega), w64 (by omega) (by omega), ih k (by omega) (by omega)]
    split <;> rfl
theorem key_Find_eq (l : List S34) (t : Int) (hl : (l.length : Int) < 140737488355328) {k : Nat} (hk : l.length + 1 ≤ k) : key_Find.f k l t = some (fnd l t l.length) := by
  unfold key_Find.f
  rw [w64 (by omega) (by omega)]
  exact key_Find_l0 l t hl l.length k (Nat.le_refl _) hk
theorem r5_Find_l0 (l : List S34) (t : Int) (hl : (l.length : Int) < 140737488355328) : ∀ (d k : Nat) (i : Nat), i + d = l.length → d + 1 ≤ k → mutoscoperef5_Find.l0 k l t (fnd l t i) (i : Int) = some (fnd l t l.length) := by
  intro d
  induction d with
  | zero =>
    intro k i hi hk
    obtain ⟨k, rfl⟩ : ∃ m, k = m + 1 := ⟨k - 1, by omega⟩
    simp only [mutoscoperef5_Find.l0]; rw [if_neg (by omega), show i = l.length by omega]
  | succ d ih =>
    intro k i hi hk
    obtain ⟨k, rfl⟩ : ∃ m, k = m + 1 := ⟨k - 1, by omega⟩
    have h := ih k (i + 1) (by omega) (by omega)
    simp only [mutoscoperef5_Find.l0]
    rw [if_pos (by omega), if_pos (by omega), w64 (by omega) (by omega)]
    simp only [fnd] at h
    rw [show ((i + 1 : Nat) : Int) = (i : Int) + 1 from by omega] at h
    split
    · rename_i hc; rw [if_pos hc] at h; exact h
    · rename_i hc; rw [if_neg hc] at h; exact h
theorem r5_Find_eq (l : List S34) (t : Int) (hl : (l.length : Int) < 140737488355328) {k : Nat} (hk : l.length + 1 ≤ k) : mutoscoperef5_Find.f k l t = some (fnd l t l.length) := by
  unfold mutoscoperef5_Find.f
  exact r5_Find_l0 l t hl l.length k 0 (by omega) hk
theorem key_Goes_eq {k : Nat} (hk : 19 ≤ k) (how x1 y1 x2 y2 p : Int) : key_Goes.f k how x1 y1 x2 y2 p = some (goes how x1 y1 x2 y2 p) := by
  obtain ⟨k, rfl⟩ : ∃ m, k = m + 1 := ⟨k - 1, by omega⟩
  have hj : ∀ b, key_Goes.j0 (k + 1) how p b x1 y1 x2 y2 = some (if b = true then 65536 else if how = 1 then p else if how = 2 then curve x1 y1 x2 y2 p else 0) := by
    intro b
    simp only [key_Goes.j0, ease_At_eq (show 18 ≤ k by omega), Option.bind_some]
    repeat (first | rfl | split)
  unfold key_Goes.f goes
  rw [hj, hj]
  by_cases h : how = 0
  · rw [if_pos h, if_pos h]
    by_cases h2 : p ≥ 65536
    · rw [decide_eq_true h2, if_pos rfl, if_pos h2]
    · rw [decide_eq_false h2, if_neg (by decide), if_neg h2, if_neg (by omega), if_neg (by omega)]
  · rw [if_neg h, if_neg h, if_neg (by decide)]
theorem r5_Goes_eq {k : Nat} (hk : 22 ≤ k) (how x1 y1 x2 y2 p : Int) : mutoscoperef5_Goes.f k how x1 y1 x2 y2 p = some (goes how x1 y1 x2 y2 p) := by
  unfold mutoscoperef5_Goes.f goes
  simp only [r5_Curve_eq hk, Option.bind_some]
  repeat (first | rfl | split)
theorem q_Mid_eq {k : Nat} (hk : 1 ≤ k) (a b t : Int) : q_Mid.f k a b t = some (mid a b t) := by
  unfold q_Mid.f
  have h := hd_bd a
  simp only [q_Hold_eq, Option.bind_some]
  rw [w64 (by omega) (by omega)]
  simp only [q_Add_eq, q_Mul_ge hk, Option.bind_some]
  have e : hd (hd a) = hd a := hd_of h.1 h.2
  unfold mid add
  rw [e]
theorem r1_Mid_eq {k : Nat} (hk : 5 ≤ k) (a b t : Int) : mutoscoperef1_Mid.f k a b t = some (mid a b t) := by
  unfold mutoscoperef1_Mid.f
  have h := hd_bd a
  simp only [r1_Hold_eq, Option.bind_some]
  rw [w64 (by omega) (by omega)]
  simp only [r1_Add_eq, r1_Mul_ge hk, Option.bind_some]
  have e : hd (hd a) = hd a := hd_of h.1 h.2
  unfold mid add
  rw [e]
theorem key_At_eq (l : List S34) (t none : Int) (hl : (l.length : Int) < 140737488355328) {k : Nat} (hk : l.length + 22 ≤ k) : key_At.f k l t none = some (kat l t none) := by
  unfold key_At.f kat
  have hb := fnd_bd l t l.length
  by_cases h0 : (l.length : Int) = 0
  · rw [if_pos h0, if_pos h0]
  · rw [if_neg h0, if_neg h0, key_Find_eq l t hl (by omega)]
    simp only [Option.bind_some]
    generalize fnd l t l.length = i at *
    by_cases h1 : i = -1
    · rw [if_pos h1, if_pos h1, if_pos (by omega)]
    · rw [if_neg h1, if_neg h1, w64 (x := (l.length : Int) - 1) (by omega) (by omega)]
      by_cases h2 : i = (l.length : Int) - 1
      · rw [if_pos h2, if_pos h2, if_pos (by omega), if_pos (by omega)]
      · rw [if_neg h2, if_neg h2, if_pos (by omega), if_pos (by omega), w64 (x := i + 1) (by omega) (by omega), if_pos (by omega), if_pos (by omega)]
        simp only [ease_Part_eq, Option.bind_some, key_Goes_eq (show 19 ≤ k by omega), q_Mid_eq (show 1 ≤ k by omega)]
theorem r5_At_eq (l : List S34) (t none : Int) (hl : (l.length : Int) < 140737488355328) {k : Nat} (hk : l.length + 22 ≤ k) : mutoscoperef5_At.f k l t none = some (kat l t none) := by
  unfold mutoscoperef5_At.f kat
  have hb := fnd_bd l t l.length
  by_cases h0 : (l.length : Int) = 0
  · rw [if_pos h0, if_pos h0]
  · rw [if_neg h0, if_neg h0, r5_Find_eq l t hl (by omega)]
    simp only [Option.bind_some]
    generalize fnd l t l.length = i at *
    by_cases h1 : i = -1
    · rw [if_pos (by omega), if_pos h1, if_pos (by omega)]
    · rw [if_neg (by omega), if_neg h1, w64 (x := (l.length : Int) - 1) (by omega) (by omega)]
      by_cases h2 : i = (l.length : Int) - 1
      · rw [if_pos h2, if_pos h2, if_pos (by omega), if_pos (by omega)]
      · rw [if_neg h2, if_neg h2, if_pos (by omega), if_pos (by omega), w64 (x := i + 1) (by omega) (by omega), if_pos (by omega), if_pos (by omega)]
        simp only [r5_Part_eq, Option.bind_some, r5_Goes_eq (show 22 ≤ k by omega), r1_Mid_eq (show 5 ≤ k by omega)]
def way (how x1 y1 x2 y2 : Int) : Bool := if how = 2 then (ease_Right.f x1 y1 x2 y2).getD false else if how = 0 ∨ how = 1 then (x1 == 0 && (y1 == 0 && (x2 == 0 && (y2 == 0)))) else false
def stp (i ahead t how x1 y1 x2 y2 : Int) : Bool := decide (-1073741824 ≤ t) && (decide (t ≤ 1073741824) && (decide (i > 0 → ahead < t) && way how x1 y1 x2 y2))
theorem key_Step_eq {k : Nat} (hk : 1 ≤ k) (i ahead t how x1 y1 x2 y2 : Int) : key_Step.f k i ahead t how x1 y1 x2 y2 = some (stp i ahead t how x1 y1 x2 y2) := by
  obtain ⟨k, rfl⟩ : ∃ m, k = m + 1 := ⟨k - 1, by omega⟩
  obtain ⟨r, hr⟩ := ease_Right_some x1 y1 x2 y2
  have hj : ∀ b, key_Step.j0 (k + 1) how b x1 y1 x2 y2 = some (!b && way how x1 y1 x2 y2) := by
    intro b
    simp only [key_Step.j0, hr, Option.bind_some, way, Option.getD_some]
    cases b
    · rw [if_neg (by decide)]
      by_cases h2 : how = 2
      · rw [if_pos h2, if_pos h2]; rfl
      · rw [if_neg h2, if_neg h2]
        by_cases h0 : how = 0
        · rw [if_pos h0, if_pos (.inl h0)]; rfl
        · rw [if_neg h0]
          by_cases h1 : how = 1
          · rw [if_pos h1, if_pos (.inr h1)]; rfl
          · rw [if_neg h1, if_neg (by omega)]; rfl
    · rw [if_pos rfl]; rfl
  unfold key_Step.f stp
  simp only [hj]
  by_cases c1 : t < -1073741824
  · rw [if_pos c1, decide_eq_false (show ¬ -1073741824 ≤ t by omega)]; rfl
  · rw [if_neg c1, decide_eq_true (show -1073741824 ≤ t by omega)]
    by_cases c2 : t > 1073741824
    · rw [if_pos c2, decide_eq_false (show ¬ t ≤ 1073741824 by omega)]; rfl
    · rw [if_neg c2, decide_eq_true (show t ≤ 1073741824 by omega)]
      by_cases c3 : i > 0
      · rw [if_pos c3]
        by_cases c4 : t ≤ ahead
        · rw [decide_eq_true c4, decide_eq_false (show ¬ (i > 0 → ahead < t) from fun h => by have := h c3; omega)]; rfl
        · rw [decide_eq_false c4, decide_eq_true (show (i > 0 → ahead < t) from fun _ => by omega)]; rfl
      · rw [if_neg c3, decide_eq_true (show (i > 0 → ahead < t) from fun h => absurd h c3)]; rfl
theorem r5_Moves_eq (t how x1 y1 x2 y2 : Int) : mutoscoperef5_Moves.f t how x1 y1 x2 y2 = some (stp 0 0 t how x1 y1 x2 y2) := by
  obtain ⟨r, hr⟩ := ease_Right_some x1 y1 x2 y2
  unfold mutoscoperef5_Moves.f stp
  rw [r5_Ease_eq, hr]
  simp only [Option.bind_some, way, hr, Option.getD_some]
  have e : mutoscoperef5_within.f t (-1073741824) 1073741824 = some (decide (-1073741824 ≤ t) && decide (t ≤ 1073741824)) := by
    unfold mutoscoperef5_within.f
    by_cases c : t ≥ -1073741824
    · rw [if_pos c, decide_eq_true (show -1073741824 ≤ t by omega)]; rfl
    · rw [if_neg c, decide_eq_false (show ¬ -1073741824 ≤ t by omega)]; rfl
  rw [e]
  simp only [Option.bind_some]
  rw [show decide ((0 : Int) > 0 → (0 : Int) < t) = true from decide_eq_true (fun h => absurd h (by decide)), Bool.true_and]
  generalize decide (-1073741824 ≤ t) = u
  generalize decide (t ≤ 1073741824) = v
  cases u
  · rfl
  · cases v
    · rfl
    · rw [if_pos (show (true && true) = true from rfl), Bool.true_and, Bool.true_and]
      by_cases h2 : how = 2
      · rw [if_pos h2, if_pos h2]
      · rw [if_neg h2, if_neg h2]
        by_cases h0 : how = 0
        · rw [if_pos h0, if_pos (.inl h0)]
        · rw [if_neg h0]
          by_cases h1 : how = 1
          · rw [if_pos h1, if_pos (.inr h1)]
          · rw [if_neg h1, if_neg (by omega)]
def kok (l : List S34) (i : Int) : Bool :=
  stp i (rd_T34 l (i - 1)).f0 (rd_T34 l i).f0 (rd_T34 l i).f2 (rd_T34 l i).f3.f0 (rd_T34 l i).f3.f1 (rd_T34 l i).f3.f2 (rd_T34 l i).f3.f3 &&
    (decide (-67108864 ≤ (rd_T34 l i).f1) && decide ((rd_T34 l i).f1 ≤ 67108864))
def krt (l : List S34) : Nat → Int → Bool
  | 0, _ => decide ((l.length : Int) ≤ 32)
  | d + 1, i => kok l i && krt l d (i + 1)
theorem key_Right_l0 (l : List S34) (hl : (l.length : Int) < 140737488355328) : ∀ (d k : Nat) (i ahead : Int), 0 ≤ i → i + d = (l.length : Int) → (i > 0 → ahead = (rd_T34 l (i - 1)).f0) → d + 2 ≤ k →
    key_Right.l0 k l ahead l (l.length : Int) i = some (krt l d i) := by
  intro d
  induction d with
  | zero =>
    intro k i ahead h0 hi ha hk
    obtain ⟨k, rfl⟩ : ∃ m, k = m + 1 := ⟨k - 1, by omega⟩
    simp only [key_Right.l0, krt]; rw [if_neg (by omega)]
  | succ d ih =>
    intro k i ahead h0 hi ha hk
    obtain ⟨k, rfl⟩ : ∃ m, k = m + 1 := ⟨k - 1, by omega⟩
    simp only [key_Right.l0, krt]
    rw [if_pos (by omega), if_pos h0, if_pos (by omega), key_Step_eq (by omega), w64 (by omega) (by omega), ih k (i + 1) _ (by omega) (by omega) (fun _ => by rw [show i + 1 - 1 = i by omega]) (by omega)]
    simp only [Option.bind_some]
    have e : stp i ahead (rd_T34 l i).f0 (rd_T34 l i).f2 (rd_T34 l i).f3.f0 (rd_T34 l i).f3.f1 (rd_T34 l i).f3.f2 (rd_T34 l i).f3.f3 = stp i (rd_T34 l (i - 1)).f0 (rd_T34 l i).f0 (rd_T34 l i).f2 (rd_T34 l i).f3.f0 (rd_T34 l i).f3.f1 (rd_T34 l i).f3.f2 (rd_T34 l i).f3.f3 := by
      by_cases hp : i > 0
      · rw [ha hp]
      · unfold stp
        rw [decide_eq_true (show (i > 0 → ahead < (rd_T34 l i).f0) from fun h => absurd h hp), decide_eq_true (show (i > 0 → (rd_T34 l (i - 1)).f0 < (rd_T34 l i).f0) from fun h => absurd h hp)]
    rw [e]
    unfold kok
    cases stp i (rd_T34 l (i - 1)).f0 (rd_T34 l i).f0 (rd_T34 l i).f2 (rd_T34 l i).f3.f0 (rd_T34 l i).f3.f1 (rd_T34 l i).f3.f2 (rd_T34 l i).f3.f3
    · rw [if_neg (by decide)]; rfl
    · rw [if_pos rfl, Bool.true_and]
      by_cases c1 : (rd_T34 l i).f1 < -67108864
      · rw [if_pos c1, decide_eq_false (show ¬ -67108864 ≤ (rd_T34 l i).f1 by omega)]; rfl
      · rw [if_neg c1, decide_eq_true (show -67108864 ≤ (rd_T34 l i).f1 by omega)]
        by_cases c2 : (rd_T34 l i).f1 > 67108864
        · rw [if_pos c2, decide_eq_false (show ¬ (rd_T34 l i).f1 ≤ 67108864 by omega)]; rfl
        · rw [if_neg c2, decide_eq_true (show (rd_T34 l i).f1 ≤ 67108864 by omega)]; rfl
theorem key_Right_eq (l : List S34) (hl : (l.length : Int) < 140737488355328) {k : Nat} (hk : l.length + 2 ≤ k) : key_Right.f k l = some (krt l l.length 0) := by
  unfold key_Right.f
  exact key_Right_l0 l hl l.length k 0 0 (by omega) (by omega) (fun h => absurd h (by omega)) hk
theorem stp_0 (i ahead t how x1 y1 x2 y2 : Int) : stp i ahead t how x1 y1 x2 y2 = (stp 0 0 t how x1 y1 x2 y2 && decide (i > 0 → ahead < t)) := by
  unfold stp
  rw [show decide ((0 : Int) > 0 → (0 : Int) < t) = true from decide_eq_true (fun h => absurd h (by decide))]
  cases decide (-1073741824 ≤ t) <;> cases decide (t ≤ 1073741824) <;> cases decide (i > 0 → ahead < t) <;> cases way how x1 y1 x2 y2 <;> rfl
theorem r5_Right_l0 (l : List S34) (hl : (l.length : Int) < 140737488355328) : ∀ (d k : Nat) (i : Int), 0 ≤ i → i + d = (l.length : Int) → 2 * d + 1 ≤ k → mutoscoperef5_Right.l0 k l i = some (krt l d i) := by
  intro d
  induction d with
  | zero =>
    intro k i h0 hi hk
    obtain ⟨k, rfl⟩ : ∃ m, k = m + 1 := ⟨k - 1, by omega⟩
    simp only [mutoscoperef5_Right.l0, krt]; rw [if_neg (by omega)]
  | succ d ih =>
    intro k i h0 hi hk
    obtain ⟨k, rfl⟩ : ∃ m, k = m + 1 := ⟨k - 1, by omega⟩
    simp only [mutoscoperef5_Right.l0, krt]
    have hj : ∀ b : Bool, mutoscoperef5_Right.j1 k l i b = if b = true then some false else some (krt l d (i + 1)) := fun b => by
      obtain ⟨k, rfl⟩ : ∃ m, k = m + 1 := ⟨k - 1, by omega⟩
      simp only [mutoscoperef5_Right.j1]
      rw [w64 (x := i + 1) (by omega) (by omega), ih k (i + 1) (by omega) (by omega) (by omega)]
    rw [if_pos (by omega), if_pos h0, r5_Moves_eq]
    simp only [Option.bind_some, hj]
    have e : mutoscoperef5_within.f (rd_T34 l i).f1 (-67108864) 67108864 = some (decide (-67108864 ≤ (rd_T34 l i).f1) && decide ((rd_T34 l i).f1 ≤ 67108864)) := by
      unfold mutoscoperef5_within.f
      by_cases c : (rd_T34 l i).f1 ≥ -67108864
      · rw [if_pos c, decide_eq_true (show -67108864 ≤ (rd_T34 l i).f1 by omega)]; rfl
      · rw [if_neg c, decide_eq_false (show ¬ -67108864 ≤ (rd_T34 l i).f1 by omega)]; rfl
    rw [e]
    unfold kok
    rw [stp_0 i]
    simp only [Option.bind_some]
    cases stp 0 0 (rd_T34 l i).f0 (rd_T34 l i).f2 (rd_T34 l i).f3.f0 (rd_T34 l i).f3.f1 (rd_T34 l i).f3.f2 (rd_T34 l i).f3.f3
    · rw [if_neg (by decide)]; rfl
    · rw [if_pos rfl, Bool.true_and]
      cases (decide (-67108864 ≤ (rd_T34 l i).f1) && decide ((rd_T34 l i).f1 ≤ 67108864))
      · rw [if_neg (by decide), Bool.and_false]; rfl
      · rw [if_pos rfl, Bool.and_true]
        by_cases c : i > 0
        · rw [if_pos c, w64 (x := i - 1) (by omega) (by omega), if_pos (by omega), if_pos (by omega)]
          by_cases c2 : (rd_T34 l (i - 1)).f0 ≥ (rd_T34 l i).f0
          · rw [decide_eq_true c2, if_pos rfl, decide_eq_false (show ¬ (i > 0 → (rd_T34 l (i - 1)).f0 < (rd_T34 l i).f0) from fun h => by have := h c; omega)]; rfl
          · rw [decide_eq_false c2, if_neg (by decide), decide_eq_true (show (i > 0 → (rd_T34 l (i - 1)).f0 < (rd_T34 l i).f0) from fun _ => by omega)]; rfl
        · rw [if_neg c, decide_eq_true (show (i > 0 → (rd_T34 l (i - 1)).f0 < (rd_T34 l i).f0) from fun h => absurd h c)]; rfl
theorem r5_Right_eq (l : List S34) (hl : (l.length : Int) < 140737488355328) {k : Nat} (hk : 2 * l.length + 2 ≤ k) : mutoscoperef5_Right.f k l = some (krt l l.length 0) := by
  unfold mutoscoperef5_Right.f
  exact r5_Right_l0 l hl l.length k 0 (by omega) (by omega) (by omega)
end Go.Proofs.Ytejnbjclcdmopaa.PA
end

section
set_option linter.unusedVariables false
namespace Go.Proofs.Ytejnbjclcdmopaa.PA
open Go.RowKit Go.Proofs.YtejnbjclcdmopaaW.PrintWords Go.Proofs.YtejnbjclcdmopaaW.PrintLast Go.Proofs.YtejnbjclcdmopaaW.PrintMore Go.Proofs.Ytejnbjclcdmopaa.MB
theorem known5 {k : Nat} (hk : 24 ≤ k) : mutoscopelaw5_known.f k = some true := by
  unfold mutoscopelaw5_known.f
  simp only [Option.bind_some]
  have h2 : (([(⟨0, 0, 1, (⟨0, 0, 0, 0⟩ : S23)⟩ : S34), (⟨10, 10, 0, (⟨0, 0, 0, 0⟩ : S23)⟩ : S34)] : List (S34)).length : Int) < 140737488355328 := by decide
  have h2' : (([(⟨1, 0, 0, (⟨0, 0, 0, 0⟩ : S23)⟩ : S34), (⟨1, 0, 0, (⟨0, 0, 0, 0⟩ : S23)⟩ : S34)] : List (S34)).length : Int) < 140737488355328 := by decide
  rw [key_At_eq _ _ _ h2 hk, key_At_eq _ _ _ (by decide) (show ([] : List S34).length + 22 ≤ k from by simpa using (by omega : 22 ≤ k)), key_Find_eq _ _ h2 (show 3 ≤ k by omega), key_Find_eq _ _ h2 (show 3 ≤ k by omega), key_Right_eq _ h2 (show 4 ≤ k by omega), key_Right_eq _ h2' (show 4 ≤ k by omega)]
  simp only [Option.bind_some]
  rw [if_pos (by decide +kernel), if_pos (by decide +kernel), if_pos (by decide +kernel), if_pos (by decide +kernel), if_pos (by decide +kernel)]
  decide +kernel
theorem same5 (l : List S34) (t none : Int) (hl : (l.length : Int) < 140737488355328) {k : Nat} (hk : 2 * l.length + 22 ≤ k) : mutoscopelaw5_same.f k l t none = some true := by
  unfold mutoscopelaw5_same.f
  rw [key_Right_eq l hl (by omega), r5_Right_eq l hl (by omega)]
  simp only [Option.bind_some]
  rw [if_pos (by simp), key_Find_eq l t hl (by omega), r5_Find_eq l t hl (by omega)]
  simp only [Option.bind_some, if_true]
  rw [key_At_eq l t none hl (by omega), r5_At_eq l t none hl (by omega)]
  simp
end Go.Proofs.Ytejnbjclcdmopaa.PA
end

section
set_option linter.unusedVariables false
namespace Go.Proofs.Ytejnbjclcdmopaa.Pure
open Go.RowKit Go.Proofs.Ytejnbjclcdmopaa.PA Go.Proofs.YtejnbjclcdmopaaW.PrintWords Go.Proofs.YtejnbjclcdmopaaW.PrintLast Go.Proofs.YtejnbjclcdmopaaW.PrintMore Go.Proofs.Ytejnbjclcdmopaa.MB
theorem kn_l4 (x70 : List S34) (hn : (x70.length : Int) ≤ 1000) :
    ∀ (d : Nat) (i : Int), 0 ≤ i → i + d = (x70.length : Int) → Evt fun k => mutoscopelaw5_KeyNumbers.l4 k x70 (x70.length : Int) i = some true := by
  intro d
  induction d with
  | zero =>
    intro i h0 h1
    refine (Evt.of (p := fun k => 120 ≤ k) 120 fun k h => h).succ fun k h => ?_
    simp only [mutoscopelaw5_KeyNumbers.l4]
    rw [if_neg (by omega), if_pos (by decide), same5 _ _ _ (by decide) (show 2 * (List.replicate 33 z34).length + 22 ≤ k from by simp only [List.length_replicate]; omega), known5 (by omega)]
    rfl
  | succ d ih =>
    intro i h0 h1
    refine ((ih (i + 1) (by omega) (by omega)).and (Evt.of (p := fun k => 120 ≤ k) 120 fun k h => h)).succ fun k h => ?_
    obtain ⟨h, hk⟩ := h
    simp only [mutoscopelaw5_KeyNumbers.l4]
    rw [if_pos (by omega), if_pos h0, if_pos (by omega), same5 _ _ _ (by simp only [List.length_cons, List.length_nil]; omega) (by simp only [List.length_cons, List.length_nil]; omega), same5 _ _ _ (by simp only [List.length_cons, List.length_nil]; omega) (by simp only [List.length_cons, List.length_nil]; omega)]
    simp only [Option.bind_some, if_true]
    rw [w64 (by omega) (by omega)]; exact h
theorem kn_l3 (x1 x2 : Int) (x3 : List S34) (hn : x3.length ≤ 6) (hc : Evt fun k => mutoscopelaw5_KeyNumbers.l1 k x1 (wrap64 (x2 + 1)) = some true) :
    ∀ (d : Nat) (i : Int), -3 ≤ i → i + d = 32 → Evt fun k => mutoscopelaw5_KeyNumbers.l3 k x1 x2 x3 i = some true := by
  intro d
  induction d with
  | zero => intro i h0 h1; exact hc.succ fun k h => by simp only [mutoscopelaw5_KeyNumbers.l3]; rw [if_neg (by omega)]; exact h
  | succ d ih =>
    intro i h0 h1
    refine ((ih (i + 1) (by omega) (by omega)).and (Evt.of (p := fun k => 120 ≤ k) 120 fun k h => h)).succ fun k h => ?_
    obtain ⟨h, hk⟩ := h
    simp only [mutoscopelaw5_KeyNumbers.l3]
    rw [if_pos (by omega), same5 _ _ _ (by omega) (by omega), key_Goes_eq (by omega), r5_Goes_eq (by omega)]
    simp only [Option.bind_some, if_true]
    rw [w64 (x := i + 1) (by omega) (by omega)]; exact h
theorem kn_l2 (x1 x2 : Int) (hx : x1 ≤ 6) (hc : ∀ x3 : List S34, x3.length ≤ 6 → Evt fun k => mutoscopelaw5_KeyNumbers.l3 k x1 x2 x3 (-3) = some true) :
    ∀ (d : Nat) (i : Int) (x3 : List S34), 0 ≤ i → i + d = x1 → (x3.length : Int) = i → Evt fun k => mutoscopelaw5_KeyNumbers.l2 k x1 x2 x3 i = some true := by
  intro d
  induction d with
  | zero => intro i x3 h0 h1 h2; exact (hc x3 (by omega)).succ fun k h => by simp only [mutoscopelaw5_KeyNumbers.l2]; rw [if_neg (by omega)]; exact h
  | succ d ih =>
    intro i x3 h0 h1 h2
    have nx : ∀ x : S34, Evt fun k => mutoscopelaw5_KeyNumbers.l2 k x1 x2 (x3 ++ [x]) (wrap64 (i + 1)) = some true := fun x => by
      rw [w64 (x := i + 1) (by omega) (by omega)]
      exact ih (i + 1) (x3 ++ [x]) (by omega) (by omega) (by rw [List.length_append, List.length_singleton]; omega)
    by_cases c : x2 = 2
    · refine (nx (⟨wrap64 (i * 5), wrap64 ((wrap64 (i * i)) * 70000), x2, (⟨21845, (-65536), 32768, 131072⟩ : S23)⟩ : S34)).succ fun k h => ?_
      simp only [mutoscopelaw5_KeyNumbers.l2]
      rw [if_pos (by omega), if_pos c, if_pos (by omega)]; exact h
    · refine (nx (⟨wrap64 (i * 5), wrap64 ((wrap64 (i * i)) * 70000), x2, (⟨0, 0, 0, 0⟩ : S23)⟩ : S34)).succ fun k h => ?_
      simp only [mutoscopelaw5_KeyNumbers.l2]
      rw [if_pos (by omega), if_neg c, if_pos (by omega)]; exact h
theorem kn_l1 (x1 : Int) (h0 : 0 ≤ x1) (hx : x1 ≤ 6) (hc : Evt fun k => mutoscopelaw5_KeyNumbers.l0 k (wrap64 (x1 + 1)) = some true) :
    ∀ (d : Nat) (i : Int), -1 ≤ i → i + d = 5 → Evt fun k => mutoscopelaw5_KeyNumbers.l1 k x1 i = some true := by
  intro d
  induction d with
  | zero => intro i h1 h2; exact hc.succ fun k h => by simp only [mutoscopelaw5_KeyNumbers.l1]; rw [if_neg (by omega)]; exact h
  | succ d ih =>
    intro i h1 h2
    have h := ih (i + 1) (by omega) (by omega)
    refine (kn_l2 x1 i hx (fun x3 h3 => kn_l3 x1 i x3 h3 (by rw [w64 (by omega) (by omega)]; exact h) 35 (-3) (by omega) (by omega)) x1.toNat 0 [] (by omega) (by omega) (by simp)).succ fun k h => ?_
    simp only [mutoscopelaw5_KeyNumbers.l1]
    rw [if_pos (by omega)]; exact h
theorem kn_l0 : ∀ (d : Nat) (i : Int), 0 ≤ i → i + d = 6 → Evt fun k => mutoscopelaw5_KeyNumbers.l0 k i = some true := by
  intro d
  induction d with
  | zero =>
    intro i h1 h2
    refine (kn_l4 [(⟨1073741824, 0, 0, (⟨0, 0, 0, 0⟩ : S23)⟩ : S34), (⟨1073741825, 0, 0, (⟨0, 0, 0, 0⟩ : S23)⟩ : S34), (⟨(-1073741825), 0, 0, (⟨0, 0, 0, 0⟩ : S23)⟩ : S34), (⟨0, 67108864, 0, (⟨0, 0, 0, 0⟩ : S23)⟩ : S34), (⟨0, 67108865, 0, (⟨0, 0, 0, 0⟩ : S23)⟩ : S34), (⟨0, (-67108865), 0, (⟨0, 0, 0, 0⟩ : S23)⟩ : S34), (⟨0, 0, 0, (⟨1, 0, 0, 0⟩ : S23)⟩ : S34), (⟨0, 0, 2, (⟨(-1), 0, 0, 0⟩ : S23)⟩ : S34), (⟨0, 0, 3, (⟨0, 0, 0, 0⟩ : S23)⟩ : S34)] (by decide) 9 0 (by omega) rfl).succ fun k h => ?_
    simp only [mutoscopelaw5_KeyNumbers.l0]
    rw [if_neg (by omega)]; exact h
  | succ d ih =>
    intro i h1 h2
    have h := ih (i + 1) (by omega) (by omega)
    refine (kn_l1 i h1 (by omega) (by rw [w64 (by omega) (by omega)]; exact h) 6 (-1) (by omega) (by omega)).succ fun k h => ?_
    simp only [mutoscopelaw5_KeyNumbers.l0]
    rw [if_pos (by omega)]; exact h
theorem KeyNumbers : mutoscopelaw5_KeyNumbers.Pure := (kn_l0 6 0 (by omega) (by omega)).ex
end Go.Proofs.Ytejnbjclcdmopaa.Pure
end
