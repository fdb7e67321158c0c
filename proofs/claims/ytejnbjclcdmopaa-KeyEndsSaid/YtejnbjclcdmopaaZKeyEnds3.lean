/- Lines of 27 texts of this seat, merged by wip/shake.py (a program of this session): what the statement's proof does not use is left out. -/
import Derived.Test.YtejnbjclcdmopaaZKeyEnds2
import Derived.ChangeSame
import Derived.Deep.Fields
import Derived.Deep.Slices
import Derived.OpenShut

section
namespace Go.Proofs.Ytejnbjclcdmopaa.PA
open Go.RowKit Go.Proofs.YtejnbjclcdmopaaW.PrintWords Go.Proofs.YtejnbjclcdmopaaW.PrintLast Go.Proofs.YtejnbjclcdmopaaW.PrintMore
attribute [local go_sem] max2_int min2_int max_two min_two max_three min_three max_four min_four
attribute [local go_sem] Go.Proofs.Ytejnbjclcdmopaa.MS.isSome_setCell
set_option linter.unusedVariables false
set_option linter.unusedSimpArgs false
def mutoscopelaw5_known.f (k : Nat)  : Option (Bool) := (some (([(⟨0, 0, 1, (⟨0, 0, 0, 0⟩ : S23)⟩ : S34), (⟨10, 10, 0, (⟨0, 0, 0, 0⟩ : S23)⟩ : S34)] : List (S34)) : List (S34))).bind fun y276 => ((key_At.f k y276 5 7).bind fun t279 => (if t279 = 5 then ((key_At.f k ([] : List (S34)) 5 7).bind fun t280 => (if t280 = 7 then ((key_Find.f k y276 (-1)).bind fun t281 => (if t281 = (-1) then ((key_Find.f k y276 99).bind fun t282 => (if t282 = 1 then ((key_Right.f k y276).bind fun t283 => (if t283 = true then ((key_Right.f k (([(⟨1, 0, 0, (⟨0, 0, 0, 0⟩ : S23)⟩ : S34), (⟨1, 0, 0, (⟨0, 0, 0, 0⟩ : S23)⟩ : S34)] : List (S34)))).bind fun t287 => (some (!t287))) else (some false))) else (some false))) else (some false))) else (some false))) else (some false)))
set_option maxHeartbeats 8000000 in
set_option maxRecDepth 100000 in
theorem mutoscopelaw5_known.calls (k : Nat)  (r : Bool) (w : World) (h : mutoscopelaw5_known.f k  = some r) :
  Calls Try.prog 20 #[] w fun e w' => e = .returned (.bool r) ∧ Below w.heap.size w w' := by
 have hu34 := Try.underlying34
 have HB := Aside0.mk (Below.refl w.heap.size w)
 have H : ((some (([(⟨0, 0, 1, (⟨0, 0, 0, 0⟩ : S23)⟩ : S34), (⟨10, 10, 0, (⟨0, 0, 0, 0⟩ : S23)⟩ : S34)] : List (S34)) : List (S34))).bind fun y276 => ((key_At.f k y276 5 7).bind fun t279 => (if t279 = 5 then ((key_At.f k ([] : List (S34)) 5 7).bind fun t280 => (if t280 = 7 then ((key_Find.f k y276 (-1)).bind fun t281 => (if t281 = (-1) then ((key_Find.f k y276 99).bind fun t282 => (if t282 = 1 then ((key_Right.f k y276).bind fun t283 => (if t283 = true then ((key_Right.f k (([(⟨1, 0, 0, (⟨0, 0, 0, 0⟩ : S23)⟩ : S34), (⟨1, 0, 0, (⟨0, 0, 0, 0⟩ : S23)⟩ : S34)] : List (S34)))).bind fun t287 => (some (!t287))) else (some false))) else (some false))) else (some false))) else (some false))) else (some false)))) = some r := h
 clear h
 obtain ⟨y276, hy276⟩ : ∃ y_ : List (S34), y_ = (([(⟨0, 0, 1, (⟨0, 0, 0, 0⟩ : S23)⟩ : S34), (⟨10, 10, 0, (⟨0, 0, 0, 0⟩ : S23)⟩ : S34)] : List (S34))) := ⟨_, rfl⟩
 replace H : ((key_At.f k y276 5 7).bind fun t279 => (if t279 = 5 then ((key_At.f k ([] : List (S34)) 5 7).bind fun t280 => (if t280 = 7 then ((key_Find.f k y276 (-1)).bind fun t281 => (if t281 = (-1) then ((key_Find.f k y276 99).bind fun t282 => (if t282 = 1 then ((key_Right.f k y276).bind fun t283 => (if t283 = true then ((key_Right.f k (([(⟨1, 0, 0, (⟨0, 0, 0, 0⟩ : S23)⟩ : S34), (⟨1, 0, 0, (⟨0, 0, 0, 0⟩ : S23)⟩ : S34)] : List (S34)))).bind fun t287 => (some (!t287))) else (some false))) else (some false))) else (some false))) else (some false))) else (some false))) = some r := by first | (rw [hy276]; with_reducible exact H) | (have H2_ := (Option.bind_some _ _).symm.trans H; rw [hy276]; with_reducible exact H2_) | (have H2_ := (Option.bind_some _ _).symm.trans H; with_reducible exact H2_) | with_reducible exact H | (rw [hy276]; exact H) | exact H
 have Ny276 := Aside0.mk hy276
 clear hy276
 replace H := Option.bind_eq_some_iff.mp H
 obtain ⟨t279, A10, H⟩ := H
 replace H : (if t279 = 5 then ((key_At.f k ([] : List (S34)) 5 7).bind fun t280 => (if t280 = 7 then ((key_Find.f k y276 (-1)).bind fun t281 => (if t281 = (-1) then ((key_Find.f k y276 99).bind fun t282 => (if t282 = 1 then ((key_Right.f k y276).bind fun t283 => (if t283 = true then ((key_Right.f k (([(⟨1, 0, 0, (⟨0, 0, 0, 0⟩ : S23)⟩ : S34), (⟨1, 0, 0, (⟨0, 0, 0, 0⟩ : S23)⟩ : S34)] : List (S34)))).bind fun t287 => (some (!t287))) else (some false))) else (some false))) else (some false))) else (some false))) else (some false)) = some r := H
 have A1 := Aside0.mk A10
 clear A10
 by_cases c2 : t279 = 5
 ·rw [if_pos c2] at H
  have c2b0 : (t279 == 5) = true := beq_iff_eq.mpr c2
  have c2b1 : (t279 != 5) = false := bne_eq_false_iff_eq.mpr c2
  clear c2
  replace H := Option.bind_eq_some_iff.mp H
  obtain ⟨t280, A30, H⟩ := H
  replace H : (if t280 = 7 then ((key_Find.f k y276 (-1)).bind fun t281 => (if t281 = (-1) then ((key_Find.f k y276 99).bind fun t282 => (if t282 = 1 then ((key_Right.f k y276).bind fun t283 => (if t283 = true then ((key_Right.f k (([(⟨1, 0, 0, (⟨0, 0, 0, 0⟩ : S23)⟩ : S34), (⟨1, 0, 0, (⟨0, 0, 0, 0⟩ : S23)⟩ : S34)] : List (S34)))).bind fun t287 => (some (!t287))) else (some false))) else (some false))) else (some false))) else (some false)) = some r := H
  have A3 := Aside0.mk A30
  clear A30
  by_cases c4 : t280 = 7
  ·rw [if_pos c4] at H
   have c4b0 : (t280 == 7) = true := beq_iff_eq.mpr c4
   have c4b1 : (t280 != 7) = false := bne_eq_false_iff_eq.mpr c4
   clear c4
   replace H := Option.bind_eq_some_iff.mp H
   obtain ⟨t281, A50, H⟩ := H
   replace H : (if t281 = (-1) then ((key_Find.f k y276 99).bind fun t282 => (if t282 = 1 then ((key_Right.f k y276).bind fun t283 => (if t283 = true then ((key_Right.f k (([(⟨1, 0, 0, (⟨0, 0, 0, 0⟩ : S23)⟩ : S34), (⟨1, 0, 0, (⟨0, 0, 0, 0⟩ : S23)⟩ : S34)] : List (S34)))).bind fun t287 => (some (!t287))) else (some false))) else (some false))) else (some false)) = some r := H
   have A5 := Aside0.mk A50
   clear A50
   by_cases c6 : t281 = (-1)
   ·rw [if_pos c6] at H
    have c6b0 : (t281 == (-1)) = true := beq_iff_eq.mpr c6
    have c6b1 : (t281 != (-1)) = false := bne_eq_false_iff_eq.mpr c6
    clear c6
    replace H := Option.bind_eq_some_iff.mp H
    obtain ⟨t282, A70, H⟩ := H
    replace H : (if t282 = 1 then ((key_Right.f k y276).bind fun t283 => (if t283 = true then ((key_Right.f k (([(⟨1, 0, 0, (⟨0, 0, 0, 0⟩ : S23)⟩ : S34), (⟨1, 0, 0, (⟨0, 0, 0, 0⟩ : S23)⟩ : S34)] : List (S34)))).bind fun t287 => (some (!t287))) else (some false))) else (some false)) = some r := H
    have A7 := Aside0.mk A70
    clear A70
    by_cases c8 : t282 = 1
    ·rw [if_pos c8] at H
     have c8b0 : (t282 == 1) = true := beq_iff_eq.mpr c8
     have c8b1 : (t282 != 1) = false := bne_eq_false_iff_eq.mpr c8
     clear c8
     replace H := Option.bind_eq_some_iff.mp H
     obtain ⟨t283, A90, H⟩ := H
     replace H : (if t283 = true then ((key_Right.f k (([(⟨1, 0, 0, (⟨0, 0, 0, 0⟩ : S23)⟩ : S34), (⟨1, 0, 0, (⟨0, 0, 0, 0⟩ : S23)⟩ : S34)] : List (S34)))).bind fun t287 => (some (!t287))) else (some false)) = some r := H
     have A9 := Aside0.mk A90
     clear A90
     by_cases c10 : t283 = true
     ·subst c10
      have H1 : ((key_Right.f k (([(⟨1, 0, 0, (⟨0, 0, 0, 0⟩ : S23)⟩ : S34), (⟨1, 0, 0, (⟨0, 0, 0, 0⟩ : S23)⟩ : S34)] : List (S34)))).bind fun t287 => (some (!t287))) = some r := by rw [if_pos rfl] at H; exact H
      clear H
      have H := H1
      clear H1
      obtain ⟨y284, hy284⟩ : ∃ y_ : List (S34), y_ = (([(⟨1, 0, 0, (⟨0, 0, 0, 0⟩ : S23)⟩ : S34), (⟨1, 0, 0, (⟨0, 0, 0, 0⟩ : S23)⟩ : S34)] : List (S34))) := ⟨_, rfl⟩
      replace H : ((key_Right.f k y284).bind fun t287 => (some (!t287))) = some r := by first | (rw [hy284]; with_reducible exact H) | (have H2_ := (Option.bind_some _ _).symm.trans H; rw [hy284]; with_reducible exact H2_) | (have H2_ := (Option.bind_some _ _).symm.trans H; with_reducible exact H2_) | with_reducible exact H | (rw [hy284]; exact H) | exact H
      have Ny284 := Aside0.mk hy284
      clear hy284
      replace H := Option.bind_eq_some_iff.mp H
      obtain ⟨t287, A110, H⟩ := H
      replace H : (some (!t287)) = some r := H
      have A11 := Aside0.mk A110
      clear A110
      obtain rfl := Option.some.inj H
      go_enter Try.func20, Try.ntmps20
      go_wp2_with (first | ((with_reducible refine gate_dst (N := 4) rfl ?_); (try (refine gate_guard (by rfl) ?_; dsimp only)); refine Kd.R_lit k34 _ 34 ?hg (N := 4) ?hd (xs := ([(⟨0, 0, 1, (⟨0, 0, 0, 0⟩ : S23)⟩ : S34), (⟨10, 10, 0, (⟨0, 0, 0, 0⟩ : S23)⟩ : S34)] : List (S34))) (inner := [.int .i64 0, .int .i64 0, .int .i64 1, .int .i64 0, .int .i64 0, .int .i64 0, .int .i64 0, .int .i64 10, .int .i64 10, .int .i64 0, .int .i64 0, .int .i64 0, .int .i64 0, .int .i64 0]) (ok := fun _ => True) (okp := fun _ => True) ?hr ?hp (fun _ hk => hk) trivial (Below.refl _ _) (Nat.le_refl _) (by simp) ?_; (case hd => rfl); (case hg => rfl); (case hr => first | (go_simp; done) | (go_simp; rfl)); (case hp => exact (Reps.c7 (show Kd.M k34 _ _ _ (⟨0, 0, 1, (⟨0, 0, 0, 0⟩ : S23)⟩ : S34) [.int .i64 0, .int .i64 0, .int .i64 1, .int .i64 0, .int .i64 0, .int .i64 0, .int .i64 0] from (k34_mkM _ _ _ (⟨0, 0, 1, (⟨0, 0, 0, 0⟩ : S23)⟩ : S34) )) (Reps.c7 (show Kd.M k34 _ _ _ (⟨10, 10, 0, (⟨0, 0, 0, 0⟩ : S23)⟩ : S34) [.int .i64 10, .int .i64 10, .int .i64 0, .int .i64 0, .int .i64 0, .int .i64 0, .int .i64 0] from (k34_mkM _ _ _ (⟨10, 10, 0, (⟨0, 0, 0, 0⟩ : S23)⟩ : S34) )) (Reps.none _ _)))); intro v277 w12 ho13 hb hg_ hnew_; clear hg_ hnew_; (first | rw [← Ny276.out] at ho13 | (simp only [Int.reduceToNat] at ho13; rw [← Ny276.out] at ho13)); have n0_ := Aside0.mk (Kd.R_lower ho13 (below_size (by repeat (first | (with_reducible first | exact HB.out | apply below_alloc | apply pw_below_drewN | apply below_drew1) | exact HB.out)))); have n1_ := Aside0.mk (below_step (by repeat (first | (with_reducible first | exact HB.out | apply below_alloc | apply pw_below_drewN | apply below_drew1) | exact HB.out)) hb); clear HB; have HO278 := n0_; have HB := n1_; clear n0_ n1_; clear hb ho13; obtain ⟨Ao14, co14, eo14⟩ := Kd.R_slice HO278.out; subst eo14) | ((with_reducible refine gate_callee (f := 18) rfl ?_); refine goesL_ (some 6) rfl rfl Try.func18 (by kernel_rfl) rfl #[.slice Ao14 y276.length co14, .int .i64 5, .int .i64 7] rfl (by (try simp only [List.map_toArray, List.map_cons, List.map_nil]); first | done | rfl | (simp only [List.length_drop, List.length_take]; rfl)) ?_; (with_reducible refine (key_At.calls k _ _ y276 5 7 t279 _ ?side1 ?side2 A1.out).mono ?_); (case side1 => repeat (first | exact (Kd.R_reads' HO278.out).2.2 | (with_reducible refine Kd.C_alloc ?_ _) | (with_reducible refine Kd.C_drewN ?_ _) | (with_reducible refine Kd.C_drew ?_))); (case side2 => exact (Kd.R_reads' HO278.out).2.1); rintro e w15 ⟨rfl, hb⟩; refine ⟨_, rfl, ?_⟩; have n0_ := Aside0.mk (Kd.R_below (by (with_reducible repeat (first | apply Kd.R_alloc | apply Kd.R_drewN | apply Kd.R_drew)); exact HO278.out) hb); have n1_ := Aside0.mk (below_step (by repeat (first | (with_reducible first | exact HB.out | apply below_alloc | apply pw_below_drewN | apply below_drew1) | exact HB.out)) hb); clear HO278; clear HB; have HO278 := n0_; have HB := n1_; clear n0_ n1_; (try clear hb); (try clear hb2); (try clear hk); (try clear hi)) | (go_at_call 18; (refine (key_At.calls k _ _ ([] : List (S34)) 5 7 t280 _ ?side1 ?side2 A3.out).mono ?_); (case side1 => exact Kd.C_nil _ _); (case side2 => exact Nat.le_refl _); rintro e w16 ⟨rfl, hb⟩; have n0_ := Aside0.mk (Kd.R_below (by (with_reducible repeat (first | apply Kd.R_alloc | apply Kd.R_drewN | apply Kd.R_drew)); exact HO278.out) hb); have n1_ := Aside0.mk (below_step (by repeat (first | (with_reducible first | exact HB.out | apply below_alloc | apply pw_below_drewN | apply below_drew1) | exact HB.out)) hb); clear HO278; clear HB; have HO278 := n0_; have HB := n1_; clear n0_ n1_; (try clear hb); (try clear hb2); (try clear hk); (try clear hi)) | (go_at_call 19; (with_reducible refine (key_Find.calls k _ _ y276 (-1) t281 _ ?side1 ?side2 A5.out).mono ?_); (case side1 => repeat (first | exact (Kd.R_reads' HO278.out).2.2 | (with_reducible refine Kd.C_alloc ?_ _) | (with_reducible refine Kd.C_drewN ?_ _) | (with_reducible refine Kd.C_drew ?_))); (case side2 => exact (Kd.R_reads' HO278.out).2.1); rintro e w' ⟨rfl, ⟨nd, rfl⟩⟩) | (go_at_call 19; (with_reducible refine (key_Find.calls k _ _ y276 99 t282 _ ?side1 ?side2 A7.out).mono ?_); (case side1 => repeat (first | exact (Kd.R_reads' HO278.out).2.2 | (with_reducible refine Kd.C_alloc ?_ _) | (with_reducible refine Kd.C_drewN ?_ _) | (with_reducible refine Kd.C_drew ?_))); (case side2 => exact (Kd.R_reads' HO278.out).2.1); rintro e w' ⟨rfl, ⟨nd, rfl⟩⟩) | (go_at_call 22; (with_reducible refine (key_Right.calls k _ _ y276 true _ ?side1 ?side2 A9.out).mono ?_); (case side1 => repeat (first | exact (Kd.R_reads' HO278.out).2.2 | (with_reducible refine Kd.C_alloc ?_ _) | (with_reducible refine Kd.C_drewN ?_ _) | (with_reducible refine Kd.C_drew ?_))); (case side2 => exact (Kd.R_reads' HO278.out).2.1); rintro e w17 ⟨rfl, hb⟩; have n0_ := Aside0.mk (Kd.R_below (by (with_reducible repeat (first | apply Kd.R_alloc | apply Kd.R_drewN | apply Kd.R_drew)); exact HO278.out) hb); have n1_ := Aside0.mk (below_step (by repeat (first | (with_reducible first | exact HB.out | apply below_alloc | apply pw_below_drewN | apply below_drew1) | exact HB.out)) hb); clear HO278; clear HB; have HO278 := n0_; have HB := n1_; clear n0_ n1_; (try clear hb); (try clear hb2); (try clear hk); (try clear hi)) | ((with_reducible refine gate_dst (N := 29) rfl ?_); (try (refine gate_guard (by rfl) ?_; dsimp only)); refine Kd.R_lit k34 _ 34 ?hg (N := 29) ?hd (xs := ([(⟨1, 0, 0, (⟨0, 0, 0, 0⟩ : S23)⟩ : S34), (⟨1, 0, 0, (⟨0, 0, 0, 0⟩ : S23)⟩ : S34)] : List (S34))) (inner := [.int .i64 1, .int .i64 0, .int .i64 0, .int .i64 0, .int .i64 0, .int .i64 0, .int .i64 0, .int .i64 1, .int .i64 0, .int .i64 0, .int .i64 0, .int .i64 0, .int .i64 0, .int .i64 0]) (ok := fun _ => True) (okp := fun _ => True) ?hr ?hp (fun _ hk => hk) trivial (Below.refl _ _) (Nat.le_refl _) (by simp) ?_; (case hd => rfl); (case hg => rfl); (case hr => first | (go_simp; done) | (go_simp; rfl)); (case hp => exact (Reps.c7 (show Kd.M k34 _ _ _ (⟨1, 0, 0, (⟨0, 0, 0, 0⟩ : S23)⟩ : S34) [.int .i64 1, .int .i64 0, .int .i64 0, .int .i64 0, .int .i64 0, .int .i64 0, .int .i64 0] from (k34_mkM _ _ _ (⟨1, 0, 0, (⟨0, 0, 0, 0⟩ : S23)⟩ : S34) )) (Reps.c7 (show Kd.M k34 _ _ _ (⟨1, 0, 0, (⟨0, 0, 0, 0⟩ : S23)⟩ : S34) [.int .i64 1, .int .i64 0, .int .i64 0, .int .i64 0, .int .i64 0, .int .i64 0, .int .i64 0] from (k34_mkM _ _ _ (⟨1, 0, 0, (⟨0, 0, 0, 0⟩ : S23)⟩ : S34) )) (Reps.none _ _)))); intro v285 w18 ho19 hb hg_ hnew_; clear hg_ hnew_; (first | rw [← Ny284.out] at ho19 | (simp only [Int.reduceToNat] at ho19; rw [← Ny284.out] at ho19)); have n0_ := Aside0.mk (Kd.R_elder' (by (with_reducible repeat (first | apply Kd.R_alloc | apply Kd.R_drewN | apply Kd.R_drew)); exact HO278.out) (Kd.R_base ho19) hb); have n1_ := Aside0.mk (Kd.R_lower (Kd.R_new' ho19 (Kd.R_lt (by (with_reducible repeat (first | apply Kd.R_alloc | apply Kd.R_drewN | apply Kd.R_drew)); exact HO278.out))) (below_size (by repeat (first | (with_reducible first | exact HB.out | apply below_alloc | apply pw_below_drewN | apply below_drew1) | exact HB.out)))); have n2_ := Aside0.mk (below_step (by repeat (first | (with_reducible first | exact HB.out | apply below_alloc | apply pw_below_drewN | apply below_drew1) | exact HB.out)) hb); clear HO278; clear HB; have HO278 := n0_; have HO286 := n1_; have HB := n2_; clear n0_ n1_ n2_; clear hb ho19; obtain ⟨Ao20, co20, eo20⟩ := Kd.R_slice HO286.out; subst eo20) | (go_at_call 22; (with_reducible refine (key_Right.calls k _ _ y284 t287 _ ?side1 ?side2 A11.out).mono ?_); (case side1 => repeat (first | exact (Kd.R_reads' HO286.out).2.2 | (with_reducible refine Kd.C_alloc ?_ _) | (with_reducible refine Kd.C_drewN ?_ _) | (with_reducible refine Kd.C_drew ?_))); (case side2 => exact (Kd.R_reads' HO286.out).2.1); rintro e w21 ⟨rfl, hb⟩; have n0_ := Aside0.mk (Kd.R_below (by (with_reducible repeat (first | apply Kd.R_alloc | apply Kd.R_drewN | apply Kd.R_drew)); exact HO278.out) hb); have n1_ := Aside0.mk (Kd.R_below (by (with_reducible repeat (first | apply Kd.R_alloc | apply Kd.R_drewN | apply Kd.R_drew)); exact HO286.out) hb); have n2_ := Aside0.mk (below_step (by repeat (first | (with_reducible first | exact HB.out | apply below_alloc | apply pw_below_drewN | apply below_drew1) | exact HB.out)) hb); clear HO278; clear HO286; clear HB; have HO278 := n0_; have HO286 := n1_; have HB := n2_; clear n0_ n1_ n2_; (try clear hb); (try clear hb2); (try clear hk); (try clear hi)))
      go_ret
      exact ⟨by first | rfl | (simp [errW_none, errW_some] <;> rfl) | (simp [*, errW_none, errW_some] <;> rfl), by repeat (first | (with_reducible first | exact HB.out | apply below_alloc | apply pw_below_drewN | apply below_drew1) | exact HB.out)⟩
     ·replace c10 := Bool.eq_false_iff.mpr c10
      subst c10
      have H1 : (some false) = some r := by rw [if_neg (show ¬ (false = true) by decide)] at H; exact H
      clear H
      have H := H1
      clear H1
      obtain rfl := Option.some.inj H
      go_enter Try.func20, Try.ntmps20
      go_wp2_with (first | ((with_reducible refine gate_dst (N := 4) rfl ?_); (try (refine gate_guard (by rfl) ?_; dsimp only)); refine Kd.R_lit k34 _ 34 ?hg (N := 4) ?hd (xs := ([(⟨0, 0, 1, (⟨0, 0, 0, 0⟩ : S23)⟩ : S34), (⟨10, 10, 0, (⟨0, 0, 0, 0⟩ : S23)⟩ : S34)] : List (S34))) (inner := [.int .i64 0, .int .i64 0, .int .i64 1, .int .i64 0, .int .i64 0, .int .i64 0, .int .i64 0, .int .i64 10, .int .i64 10, .int .i64 0, .int .i64 0, .int .i64 0, .int .i64 0, .int .i64 0]) (ok := fun _ => True) (okp := fun _ => True) ?hr ?hp (fun _ hk => hk) trivial (Below.refl _ _) (Nat.le_refl _) (by simp) ?_; (case hd => rfl); (case hg => rfl); (case hr => first | (go_simp; done) | (go_simp; rfl)); (case hp => exact (Reps.c7 (show Kd.M k34 _ _ _ (⟨0, 0, 1, (⟨0, 0, 0, 0⟩ : S23)⟩ : S34) [.int .i64 0, .int .i64 0, .int .i64 1, .int .i64 0, .int .i64 0, .int .i64 0, .int .i64 0] from (k34_mkM _ _ _ (⟨0, 0, 1, (⟨0, 0, 0, 0⟩ : S23)⟩ : S34) )) (Reps.c7 (show Kd.M k34 _ _ _ (⟨10, 10, 0, (⟨0, 0, 0, 0⟩ : S23)⟩ : S34) [.int .i64 10, .int .i64 10, .int .i64 0, .int .i64 0, .int .i64 0, .int .i64 0, .int .i64 0] from (k34_mkM _ _ _ (⟨10, 10, 0, (⟨0, 0, 0, 0⟩ : S23)⟩ : S34) )) (Reps.none _ _)))); intro v277 w22 ho23 hb hg_ hnew_; clear hg_ hnew_; (first | rw [← Ny276.out] at ho23 | (simp only [Int.reduceToNat] at ho23; rw [← Ny276.out] at ho23)); have n0_ := Aside0.mk (Kd.R_lower ho23 (below_size (by repeat (first | (with_reducible first | exact HB.out | apply below_alloc | apply pw_below_drewN | apply below_drew1) | exact HB.out)))); have n1_ := Aside0.mk (below_step (by repeat (first | (with_reducible first | exact HB.out | apply below_alloc | apply pw_below_drewN | apply below_drew1) | exact HB.out)) hb); clear HB; have HO278 := n0_; have HB := n1_; clear n0_ n1_; clear hb ho23; obtain ⟨Ao24, co24, eo24⟩ := Kd.R_slice HO278.out; subst eo24) | ((with_reducible refine gate_callee (f := 18) rfl ?_); refine goesL_ (some 6) rfl rfl Try.func18 (by kernel_rfl) rfl #[.slice Ao24 y276.length co24, .int .i64 5, .int .i64 7] rfl (by (try simp only [List.map_toArray, List.map_cons, List.map_nil]); first | done | rfl | (simp only [List.length_drop, List.length_take]; rfl)) ?_; (with_reducible refine (key_At.calls k _ _ y276 5 7 t279 _ ?side1 ?side2 A1.out).mono ?_); (case side1 => repeat (first | exact (Kd.R_reads' HO278.out).2.2 | (with_reducible refine Kd.C_alloc ?_ _) | (with_reducible refine Kd.C_drewN ?_ _) | (with_reducible refine Kd.C_drew ?_))); (case side2 => exact (Kd.R_reads' HO278.out).2.1); rintro e w25 ⟨rfl, hb⟩; refine ⟨_, rfl, ?_⟩; have n0_ := Aside0.mk (Kd.R_below (by (with_reducible repeat (first | apply Kd.R_alloc | apply Kd.R_drewN | apply Kd.R_drew)); exact HO278.out) hb); have n1_ := Aside0.mk (below_step (by repeat (first | (with_reducible first | exact HB.out | apply below_alloc | apply pw_below_drewN | apply below_drew1) | exact HB.out)) hb); clear HO278; clear HB; have HO278 := n0_; have HB := n1_; clear n0_ n1_; (try clear hb); (try clear hb2); (try clear hk); (try clear hi)) | (go_at_call 18; (refine (key_At.calls k _ _ ([] : List (S34)) 5 7 t280 _ ?side1 ?side2 A3.out).mono ?_); (case side1 => exact Kd.C_nil _ _); (case side2 => exact Nat.le_refl _); rintro e w26 ⟨rfl, hb⟩; have n0_ := Aside0.mk (Kd.R_below (by (with_reducible repeat (first | apply Kd.R_alloc | apply Kd.R_drewN | apply Kd.R_drew)); exact HO278.out) hb); have n1_ := Aside0.mk (below_step (by repeat (first | (with_reducible first | exact HB.out | apply below_alloc | apply pw_below_drewN | apply below_drew1) | exact HB.out)) hb); clear HO278; clear HB; have HO278 := n0_; have HB := n1_; clear n0_ n1_; (try clear hb); (try clear hb2); (try clear hk); (try clear hi)) | (go_at_call 19; (with_reducible refine (key_Find.calls k _ _ y276 (-1) t281 _ ?side1 ?side2 A5.out).mono ?_); (case side1 => repeat (first | exact (Kd.R_reads' HO278.out).2.2 | (with_reducible refine Kd.C_alloc ?_ _) | (with_reducible refine Kd.C_drewN ?_ _) | (with_reducible refine Kd.C_drew ?_))); (case side2 => exact (Kd.R_reads' HO278.out).2.1); rintro e w' ⟨rfl, ⟨nd, rfl⟩⟩) | (go_at_call 19; (with_reducible refine (key_Find.calls k _ _ y276 99 t282 _ ?side1 ?side2 A7.out).mono ?_); (case side1 => repeat (first | exact (Kd.R_reads' HO278.out).2.2 | (with_reducible refine Kd.C_alloc ?_ _) | (with_reducible refine Kd.C_drewN ?_ _) | (with_reducible refine Kd.C_drew ?_))); (case side2 => exact (Kd.R_reads' HO278.out).2.1); rintro e w' ⟨rfl, ⟨nd, rfl⟩⟩) | (go_at_call 22; (with_reducible refine (key_Right.calls k _ _ y276 false _ ?side1 ?side2 A9.out).mono ?_); (case side1 => repeat (first | exact (Kd.R_reads' HO278.out).2.2 | (with_reducible refine Kd.C_alloc ?_ _) | (with_reducible refine Kd.C_drewN ?_ _) | (with_reducible refine Kd.C_drew ?_))); (case side2 => exact (Kd.R_reads' HO278.out).2.1); rintro e w27 ⟨rfl, hb⟩; have n0_ := Aside0.mk (Kd.R_below (by (with_reducible repeat (first | apply Kd.R_alloc | apply Kd.R_drewN | apply Kd.R_drew)); exact HO278.out) hb); have n1_ := Aside0.mk (below_step (by repeat (first | (with_reducible first | exact HB.out | apply below_alloc | apply pw_below_drewN | apply below_drew1) | exact HB.out)) hb); clear HO278; clear HB; have HO278 := n0_; have HB := n1_; clear n0_ n1_; (try clear hb); (try clear hb2); (try clear hk); (try clear hi)))
      go_ret
      exact ⟨by first | rfl | (simp [errW_none, errW_some] <;> rfl) | (simp [*, errW_none, errW_some] <;> rfl), by repeat (first | (with_reducible first | exact HB.out | apply below_alloc | apply pw_below_drewN | apply below_drew1) | exact HB.out)⟩
    ·rw [if_neg c8] at H
     have c8b0 : (t282 == 1) = false := beq_eq_false_iff_ne.mpr c8
     have c8b1 : (t282 != 1) = true := bne_iff_ne.mpr c8
     obtain rfl := Option.some.inj H
     go_enter Try.func20, Try.ntmps20
     go_wp2_with (first | ((with_reducible refine gate_dst (N := 4) rfl ?_); (try (refine gate_guard (by rfl) ?_; dsimp only)); refine Kd.R_lit k34 _ 34 ?hg (N := 4) ?hd (xs := ([(⟨0, 0, 1, (⟨0, 0, 0, 0⟩ : S23)⟩ : S34), (⟨10, 10, 0, (⟨0, 0, 0, 0⟩ : S23)⟩ : S34)] : List (S34))) (inner := [.int .i64 0, .int .i64 0, .int .i64 1, .int .i64 0, .int .i64 0, .int .i64 0, .int .i64 0, .int .i64 10, .int .i64 10, .int .i64 0, .int .i64 0, .int .i64 0, .int .i64 0, .int .i64 0]) (ok := fun _ => True) (okp := fun _ => True) ?hr ?hp (fun _ hk => hk) trivial (Below.refl _ _) (Nat.le_refl _) (by simp) ?_; (case hd => rfl); (case hg => rfl); (case hr => first | (go_simp; done) | (go_simp; rfl)); (case hp => exact (Reps.c7 (show Kd.M k34 _ _ _ (⟨0, 0, 1, (⟨0, 0, 0, 0⟩ : S23)⟩ : S34) [.int .i64 0, .int .i64 0, .int .i64 1, .int .i64 0, .int .i64 0, .int .i64 0, .int .i64 0] from (k34_mkM _ _ _ (⟨0, 0, 1, (⟨0, 0, 0, 0⟩ : S23)⟩ : S34) )) (Reps.c7 (show Kd.M k34 _ _ _ (⟨10, 10, 0, (⟨0, 0, 0, 0⟩ : S23)⟩ : S34) [.int .i64 10, .int .i64 10, .int .i64 0, .int .i64 0, .int .i64 0, .int .i64 0, .int .i64 0] from (k34_mkM _ _ _ (⟨10, 10, 0, (⟨0, 0, 0, 0⟩ : S23)⟩ : S34) )) (Reps.none _ _)))); intro v277 w28 ho29 hb hg_ hnew_; clear hg_ hnew_; (first | rw [← Ny276.out] at ho29 | (simp only [Int.reduceToNat] at ho29; rw [← Ny276.out] at ho29)); have n0_ := Aside0.mk (Kd.R_lower ho29 (below_size (by repeat (first | (with_reducible first | exact HB.out | apply below_alloc | apply pw_below_drewN | apply below_drew1) | exact HB.out)))); have n1_ := Aside0.mk (below_step (by repeat (first | (with_reducible first | exact HB.out | apply below_alloc | apply pw_below_drewN | apply below_drew1) | exact HB.out)) hb); clear HB; have HO278 := n0_; have HB := n1_; clear n0_ n1_; clear hb ho29; obtain ⟨Ao30, co30, eo30⟩ := Kd.R_slice HO278.out; subst eo30) | ((with_reducible refine gate_callee (f := 18) rfl ?_); refine goesL_ (some 6) rfl rfl Try.func18 (by kernel_rfl) rfl #[.slice Ao30 y276.length co30, .int .i64 5, .int .i64 7] rfl (by (try simp only [List.map_toArray, List.map_cons, List.map_nil]); first | done | rfl | (simp only [List.length_drop, List.length_take]; rfl)) ?_; (with_reducible refine (key_At.calls k _ _ y276 5 7 t279 _ ?side1 ?side2 A1.out).mono ?_); (case side1 => repeat (first | exact (Kd.R_reads' HO278.out).2.2 | (with_reducible refine Kd.C_alloc ?_ _) | (with_reducible refine Kd.C_drewN ?_ _) | (with_reducible refine Kd.C_drew ?_))); (case side2 => exact (Kd.R_reads' HO278.out).2.1); rintro e w31 ⟨rfl, hb⟩; refine ⟨_, rfl, ?_⟩; have n0_ := Aside0.mk (Kd.R_below (by (with_reducible repeat (first | apply Kd.R_alloc | apply Kd.R_drewN | apply Kd.R_drew)); exact HO278.out) hb); have n1_ := Aside0.mk (below_step (by repeat (first | (with_reducible first | exact HB.out | apply below_alloc | apply pw_below_drewN | apply below_drew1) | exact HB.out)) hb); clear HO278; clear HB; have HO278 := n0_; have HB := n1_; clear n0_ n1_; (try clear hb); (try clear hb2); (try clear hk); (try clear hi)) | (go_at_call 18; (refine (key_At.calls k _ _ ([] : List (S34)) 5 7 t280 _ ?side1 ?side2 A3.out).mono ?_); (case side1 => exact Kd.C_nil _ _); (case side2 => exact Nat.le_refl _); rintro e w32 ⟨rfl, hb⟩; have n0_ := Aside0.mk (Kd.R_below (by (with_reducible repeat (first | apply Kd.R_alloc | apply Kd.R_drewN | apply Kd.R_drew)); exact HO278.out) hb); have n1_ := Aside0.mk (below_step (by repeat (first | (with_reducible first | exact HB.out | apply below_alloc | apply pw_below_drewN | apply below_drew1) | exact HB.out)) hb); clear HO278; clear HB; have HO278 := n0_; have HB := n1_; clear n0_ n1_; (try clear hb); (try clear hb2); (try clear hk); (try clear hi)) | (go_at_call 19; (with_reducible refine (key_Find.calls k _ _ y276 (-1) t281 _ ?side1 ?side2 A5.out).mono ?_); (case side1 => repeat (first | exact (Kd.R_reads' HO278.out).2.2 | (with_reducible refine Kd.C_alloc ?_ _) | (with_reducible refine Kd.C_drewN ?_ _) | (with_reducible refine Kd.C_drew ?_))); (case side2 => exact (Kd.R_reads' HO278.out).2.1); rintro e w' ⟨rfl, ⟨nd, rfl⟩⟩) | (go_at_call 19; (with_reducible refine (key_Find.calls k _ _ y276 99 t282 _ ?side1 ?side2 A7.out).mono ?_); (case side1 => repeat (first | exact (Kd.R_reads' HO278.out).2.2 | (with_reducible refine Kd.C_alloc ?_ _) | (with_reducible refine Kd.C_drewN ?_ _) | (with_reducible refine Kd.C_drew ?_))); (case side2 => exact (Kd.R_reads' HO278.out).2.1); rintro e w' ⟨rfl, ⟨nd, rfl⟩⟩))
     go_ret
     exact ⟨by first | rfl | (simp [errW_none, errW_some] <;> rfl) | (simp [*, errW_none, errW_some] <;> rfl), by repeat (first | (with_reducible first | exact HB.out | apply below_alloc | apply pw_below_drewN | apply below_drew1) | exact HB.out)⟩
   ·rw [if_neg c6] at H
    have c6b0 : (t281 == (-1)) = false := beq_eq_false_iff_ne.mpr c6
    have c6b1 : (t281 != (-1)) = true := bne_iff_ne.mpr c6
    obtain rfl := Option.some.inj H
    go_enter Try.func20, Try.ntmps20
    go_wp2_with (first | ((with_reducible refine gate_dst (N := 4) rfl ?_); (try (refine gate_guard (by rfl) ?_; dsimp only)); refine Kd.R_lit k34 _ 34 ?hg (N := 4) ?hd (xs := ([(⟨0, 0, 1, (⟨0, 0, 0, 0⟩ : S23)⟩ : S34), (⟨10, 10, 0, (⟨0, 0, 0, 0⟩ : S23)⟩ : S34)] : List (S34))) (inner := [.int .i64 0, .int .i64 0, .int .i64 1, .int .i64 0, .int .i64 0, .int .i64 0, .int .i64 0, .int .i64 10, .int .i64 10, .int .i64 0, .int .i64 0, .int .i64 0, .int .i64 0, .int .i64 0]) (ok := fun _ => True) (okp := fun _ => True) ?hr ?hp (fun _ hk => hk) trivial (Below.refl _ _) (Nat.le_refl _) (by simp) ?_; (case hd => rfl); (case hg => rfl); (case hr => first | (go_simp; done) | (go_simp; rfl)); (case hp => exact (Reps.c7 (show Kd.M k34 _ _ _ (⟨0, 0, 1, (⟨0, 0, 0, 0⟩ : S23)⟩ : S34) [.int .i64 0, .int .i64 0, .int .i64 1, .int .i64 0, .int .i64 0, .int .i64 0, .int .i64 0] from (k34_mkM _ _ _ (⟨0, 0, 1, (⟨0, 0, 0, 0⟩ : S23)⟩ : S34) )) (Reps.c7 (show Kd.M k34 _ _ _ (⟨10, 10, 0, (⟨0, 0, 0, 0⟩ : S23)⟩ : S34) [.int .i64 10, .int .i64 10, .int .i64 0, .int .i64 0, .int .i64 0, .int .i64 0, .int .i64 0] from (k34_mkM _ _ _ (⟨10, 10, 0, (⟨0, 0, 0, 0⟩ : S23)⟩ : S34) )) (Reps.none _ _)))); intro v277 w33 ho34 hb hg_ hnew_; clear hg_ hnew_; (first | rw [← Ny276.out] at ho34 | (simp only [Int.reduceToNat] at ho34; rw [← Ny276.out] at ho34)); have n0_ := Aside0.mk (Kd.R_lower ho34 (below_size (by repeat (first | (with_reducible first | exact HB.out | apply below_alloc | apply pw_below_drewN | apply below_drew1) | exact HB.out)))); have n1_ := Aside0.mk (below_step (by repeat (first | (with_reducible first | exact HB.out | apply below_alloc | apply pw_below_drewN | apply below_drew1) | exact HB.out)) hb); clear HB; have HO278 := n0_; have HB := n1_; clear n0_ n1_; clear hb ho34; obtain ⟨Ao35, co35, eo35⟩ := Kd.R_slice HO278.out; subst eo35) | ((with_reducible refine gate_callee (f := 18) rfl ?_); refine goesL_ (some 6) rfl rfl Try.func18 (by kernel_rfl) rfl #[.slice Ao35 y276.length co35, .int .i64 5, .int .i64 7] rfl (by (try simp only [List.map_toArray, List.map_cons, List.map_nil]); first | done | rfl | (simp only [List.length_drop, List.length_take]; rfl)) ?_; (with_reducible refine (key_At.calls k _ _ y276 5 7 t279 _ ?side1 ?side2 A1.out).mono ?_); (case side1 => repeat (first | exact (Kd.R_reads' HO278.out).2.2 | (with_reducible refine Kd.C_alloc ?_ _) | (with_reducible refine Kd.C_drewN ?_ _) | (with_reducible refine Kd.C_drew ?_))); (case side2 => exact (Kd.R_reads' HO278.out).2.1); rintro e w36 ⟨rfl, hb⟩; refine ⟨_, rfl, ?_⟩; have n0_ := Aside0.mk (Kd.R_below (by (with_reducible repeat (first | apply Kd.R_alloc | apply Kd.R_drewN | apply Kd.R_drew)); exact HO278.out) hb); have n1_ := Aside0.mk (below_step (by repeat (first | (with_reducible first | exact HB.out | apply below_alloc | apply pw_below_drewN | apply below_drew1) | exact HB.out)) hb); clear HO278; clear HB; have HO278 := n0_; have HB := n1_; clear n0_ n1_; (try clear hb); (try clear hb2); (try clear hk); (try clear hi)) | (go_at_call 18; (refine (key_At.calls k _ _ ([] : List (S34)) 5 7 t280 _ ?side1 ?side2 A3.out).mono ?_); (case side1 => exact Kd.C_nil _ _); (case side2 => exact Nat.le_refl _); rintro e w37 ⟨rfl, hb⟩; have n0_ := Aside0.mk (Kd.R_below (by (with_reducible repeat (first | apply Kd.R_alloc | apply Kd.R_drewN | apply Kd.R_drew)); exact HO278.out) hb); have n1_ := Aside0.mk (below_step (by repeat (first | (with_reducible first | exact HB.out | apply below_alloc | apply pw_below_drewN | apply below_drew1) | exact HB.out)) hb); clear HO278; clear HB; have HO278 := n0_; have HB := n1_; clear n0_ n1_; (try clear hb); (try clear hb2); (try clear hk); (try clear hi)) | (go_at_call 19; (with_reducible refine (key_Find.calls k _ _ y276 (-1) t281 _ ?side1 ?side2 A5.out).mono ?_); (case side1 => repeat (first | exact (Kd.R_reads' HO278.out).2.2 | (with_reducible refine Kd.C_alloc ?_ _) | (with_reducible refine Kd.C_drewN ?_ _) | (with_reducible refine Kd.C_drew ?_))); (case side2 => exact (Kd.R_reads' HO278.out).2.1); rintro e w' ⟨rfl, ⟨nd, rfl⟩⟩))
    go_ret
    exact ⟨by first | rfl | (simp [errW_none, errW_some] <;> rfl) | (simp [*, errW_none, errW_some] <;> rfl), by repeat (first | (with_reducible first | exact HB.out | apply below_alloc | apply pw_below_drewN | apply below_drew1) | exact HB.out)⟩
  ·rw [if_neg c4] at H
   have c4b0 : (t280 == 7) = false := beq_eq_false_iff_ne.mpr c4
   have c4b1 : (t280 != 7) = true := bne_iff_ne.mpr c4
   obtain rfl := Option.some.inj H
   go_enter Try.func20, Try.ntmps20
   go_wp2_with (first | ((with_reducible refine gate_dst (N := 4) rfl ?_); (try (refine gate_guard (by rfl) ?_; dsimp only)); refine Kd.R_lit k34 _ 34 ?hg (N := 4) ?hd (xs := ([(⟨0, 0, 1, (⟨0, 0, 0, 0⟩ : S23)⟩ : S34), (⟨10, 10, 0, (⟨0, 0, 0, 0⟩ : S23)⟩ : S34)] : List (S34))) (inner := [.int .i64 0, .int .i64 0, .int .i64 1, .int .i64 0, .int .i64 0, .int .i64 0, .int .i64 0, .int .i64 10, .int .i64 10, .int .i64 0, .int .i64 0, .int .i64 0, .int .i64 0, .int .i64 0]) (ok := fun _ => True) (okp := fun _ => True) ?hr ?hp (fun _ hk => hk) trivial (Below.refl _ _) (Nat.le_refl _) (by simp) ?_; (case hd => rfl); (case hg => rfl); (case hr => first | (go_simp; done) | (go_simp; rfl)); (case hp => exact (Reps.c7 (show Kd.M k34 _ _ _ (⟨0, 0, 1, (⟨0, 0, 0, 0⟩ : S23)⟩ : S34) [.int .i64 0, .int .i64 0, .int .i64 1, .int .i64 0, .int .i64 0, .int .i64 0, .int .i64 0] from (k34_mkM _ _ _ (⟨0, 0, 1, (⟨0, 0, 0, 0⟩ : S23)⟩ : S34) )) (Reps.c7 (show Kd.M k34 _ _ _ (⟨10, 10, 0, (⟨0, 0, 0, 0⟩ : S23)⟩ : S34) [.int .i64 10, .int .i64 10, .int .i64 0, .int .i64 0, .int .i64 0, .int .i64 0, .int .i64 0] from (k34_mkM _ _ _ (⟨10, 10, 0, (⟨0, 0, 0, 0⟩ : S23)⟩ : S34) )) (Reps.none _ _)))); intro v277 w38 ho39 hb hg_ hnew_; clear hg_ hnew_; (first | rw [← Ny276.out] at ho39 | (simp only [Int.reduceToNat] at ho39; rw [← Ny276.out] at ho39)); have n0_ := Aside0.mk (Kd.R_lower ho39 (below_size (by repeat (first | (with_reducible first | exact HB.out | apply below_alloc | apply pw_below_drewN | apply below_drew1) | exact HB.out)))); have n1_ := Aside0.mk (below_step (by repeat (first | (with_reducible first | exact HB.out | apply below_alloc | apply pw_below_drewN | apply below_drew1) | exact HB.out)) hb); clear HB; have HO278 := n0_; have HB := n1_; clear n0_ n1_; clear hb ho39; obtain ⟨Ao40, co40, eo40⟩ := Kd.R_slice HO278.out; subst eo40) | ((with_reducible refine gate_callee (f := 18) rfl ?_); refine goesL_ (some 6) rfl rfl Try.func18 (by kernel_rfl) rfl #[.slice Ao40 y276.length co40, .int .i64 5, .int .i64 7] rfl (by (try simp only [List.map_toArray, List.map_cons, List.map_nil]); first | done | rfl | (simp only [List.length_drop, List.length_take]; rfl)) ?_; (with_reducible refine (key_At.calls k _ _ y276 5 7 t279 _ ?side1 ?side2 A1.out).mono ?_); (case side1 => repeat (first | exact (Kd.R_reads' HO278.out).2.2 | (with_reducible refine Kd.C_alloc ?_ _) | (with_reducible refine Kd.C_drewN ?_ _) | (with_reducible refine Kd.C_drew ?_))); (case side2 => exact (Kd.R_reads' HO278.out).2.1); rintro e w41 ⟨rfl, hb⟩; refine ⟨_, rfl, ?_⟩; have n0_ := Aside0.mk (Kd.R_below (by (with_reducible repeat (first | apply Kd.R_alloc | apply Kd.R_drewN | apply Kd.R_drew)); exact HO278.out) hb); have n1_ := Aside0.mk (below_step (by repeat (first | (with_reducible first | exact HB.out | apply below_alloc | apply pw_below_drewN | apply below_drew1) | exact HB.out)) hb); clear HO278; clear HB; have HO278 := n0_; have HB := n1_; clear n0_ n1_; (try clear hb); (try clear hb2); (try clear hk); (try clear hi)) | (go_at_call 18; (refine (key_At.calls k _ _ ([] : List (S34)) 5 7 t280 _ ?side1 ?side2 A3.out).mono ?_); (case side1 => exact Kd.C_nil _ _); (case side2 => exact Nat.le_refl _); rintro e w42 ⟨rfl, hb⟩; have n0_ := Aside0.mk (Kd.R_below (by (with_reducible repeat (first | apply Kd.R_alloc | apply Kd.R_drewN | apply Kd.R_drew)); exact HO278.out) hb); have n1_ := Aside0.mk (below_step (by repeat (first | (with_reducible first | exact HB.out | apply below_alloc | apply pw_below_drewN | apply below_drew1) | exact HB.out)) hb); clear HO278; clear HB; have HO278 := n0_; have HB := n1_; clear n0_ n1_; (try clear hb); (try clear hb2); (try clear hk); (try clear hi)))
   go_ret
   exact ⟨by first | rfl | (simp [errW_none, errW_some] <;> rfl) | (simp [*, errW_none, errW_some] <;> rfl), by repeat (first | (with_reducible first | exact HB.out | apply below_alloc | apply pw_below_drewN | apply below_drew1) | exact HB.out)⟩
 ·rw [if_neg c2] at H
  have c2b0 : (t279 == 5) = false := beq_eq_false_iff_ne.mpr c2
  have c2b1 : (t279 != 5) = true := bne_iff_ne.mpr c2
  obtain rfl := Option.some.inj H
  go_enter Try.func20, Try.ntmps20
  go_wp2_with (first | ((with_reducible refine gate_dst (N := 4) rfl ?_); (try (refine gate_guard (by rfl) ?_; dsimp only)); refine Kd.R_lit k34 _ 34 ?hg (N := 4) ?hd (xs := ([(⟨0, 0, 1, (⟨0, 0, 0, 0⟩ : S23)⟩ : S34), (⟨10, 10, 0, (⟨0, 0, 0, 0⟩ : S23)⟩ : S34)] : List (S34))) (inner := [.int .i64 0, .int .i64 0, .int .i64 1, .int .i64 0, .int .i64 0, .int .i64 0, .int .i64 0, .int .i64 10, .int .i64 10, .int .i64 0, .int .i64 0, .int .i64 0, .int .i64 0, .int .i64 0]) (ok := fun _ => True) (okp := fun _ => True) ?hr ?hp (fun _ hk => hk) trivial (Below.refl _ _) (Nat.le_refl _) (by simp) ?_; (case hd => rfl); (case hg => rfl); (case hr => first | (go_simp; done) | (go_simp; rfl)); (case hp => exact (Reps.c7 (show Kd.M k34 _ _ _ (⟨0, 0, 1, (⟨0, 0, 0, 0⟩ : S23)⟩ : S34) [.int .i64 0, .int .i64 0, .int .i64 1, .int .i64 0, .int .i64 0, .int .i64 0, .int .i64 0] from (k34_mkM _ _ _ (⟨0, 0, 1, (⟨0, 0, 0, 0⟩ : S23)⟩ : S34) )) (Reps.c7 (show Kd.M k34 _ _ _ (⟨10, 10, 0, (⟨0, 0, 0, 0⟩ : S23)⟩ : S34) [.int .i64 10, .int .i64 10, .int .i64 0, .int .i64 0, .int .i64 0, .int .i64 0, .int .i64 0] from (k34_mkM _ _ _ (⟨10, 10, 0, (⟨0, 0, 0, 0⟩ : S23)⟩ : S34) )) (Reps.none _ _)))); intro v277 w43 ho44 hb hg_ hnew_; clear hg_ hnew_; (first | rw [← Ny276.out] at ho44 | (simp only [Int.reduceToNat] at ho44; rw [← Ny276.out] at ho44)); have n0_ := Aside0.mk (Kd.R_lower ho44 (below_size (by repeat (first | (with_reducible first | exact HB.out | apply below_alloc | apply pw_below_drewN | apply below_drew1) | exact HB.out)))); have n1_ := Aside0.mk (below_step (by repeat (first | (with_reducible first | exact HB.out | apply below_alloc | apply pw_below_drewN | apply below_drew1) | exact HB.out)) hb); clear HB; have HO278 := n0_; have HB := n1_; clear n0_ n1_; clear hb ho44; obtain ⟨Ao45, co45, eo45⟩ := Kd.R_slice HO278.out; subst eo45) | ((with_reducible refine gate_callee (f := 18) rfl ?_); refine goesL_ (some 6) rfl rfl Try.func18 (by kernel_rfl) rfl #[.slice Ao45 y276.length co45, .int .i64 5, .int .i64 7] rfl (by (try simp only [List.map_toArray, List.map_cons, List.map_nil]); first | done | rfl | (simp only [List.length_drop, List.length_take]; rfl)) ?_; (with_reducible refine (key_At.calls k _ _ y276 5 7 t279 _ ?side1 ?side2 A1.out).mono ?_); (case side1 => repeat (first | exact (Kd.R_reads' HO278.out).2.2 | (with_reducible refine Kd.C_alloc ?_ _) | (with_reducible refine Kd.C_drewN ?_ _) | (with_reducible refine Kd.C_drew ?_))); (case side2 => exact (Kd.R_reads' HO278.out).2.1); rintro e w46 ⟨rfl, hb⟩; refine ⟨_, rfl, ?_⟩; have n0_ := Aside0.mk (Kd.R_below (by (with_reducible repeat (first | apply Kd.R_alloc | apply Kd.R_drewN | apply Kd.R_drew)); exact HO278.out) hb); have n1_ := Aside0.mk (below_step (by repeat (first | (with_reducible first | exact HB.out | apply below_alloc | apply pw_below_drewN | apply below_drew1) | exact HB.out)) hb); clear HO278; clear HB; have HO278 := n0_; have HB := n1_; clear n0_ n1_; (try clear hb); (try clear hb2); (try clear hk); (try clear hi)))
  go_ret
  exact ⟨by first | rfl | (simp [errW_none, errW_some] <;> rfl) | (simp [*, errW_none, errW_some] <;> rfl), by repeat (first | (with_reducible first | exact HB.out | apply below_alloc | apply pw_below_drewN | apply below_drew1) | exact HB.out)⟩
end Go.Proofs.Ytejnbjclcdmopaa.PA
end

section
namespace Go.Proofs.Ytejnbjclcdmopaa.PA
open Go.RowKit Go.Proofs.YtejnbjclcdmopaaW.PrintWords Go.Proofs.YtejnbjclcdmopaaW.PrintLast Go.Proofs.YtejnbjclcdmopaaW.PrintMore
attribute [local go_sem] max2_int min2_int max_two min_two max_three min_three max_four min_four
attribute [local go_sem] Go.Proofs.Ytejnbjclcdmopaa.MS.isSome_setCell
set_option linter.unusedVariables false
set_option linter.unusedSimpArgs false
mutual
def mutoscopelaw5_KeyEnds.l0 : Nat → Int → List (S34) → Int → Int → Option (Bool)
 | 0, _, _, _, _ => none
 | k + 1, x1, x5, x14, x15 => if x15 < x14 then (if 0 ≤ x15 then (if x15 < (x5.length : Int) then (if ((rd_T34 x5 x15).f2) = 2 then ((some (x5.set (x15 : Int).toNat (⟨(rd_T34 x5 x15).f0, (rd_T34 x5 x15).f1, 1, (⟨(rd_T34 x5 x15).f3.f0, (rd_T34 x5 x15).f3.f1, (rd_T34 x5 x15).f3.f2, (rd_T34 x5 x15).f3.f3⟩ : S23)⟩ : S34) : List (S34))).bind fun y292 => (mutoscopelaw5_KeyEnds.l0 k x1 (y292.set (x15 : Int).toNat (⟨(rd_T34 y292 x15).f0, (rd_T34 y292 x15).f1, (rd_T34 y292 x15).f2, (⟨0, 0, 0, 0⟩ : S23)⟩ : S34)) x14 (wrap64 (x15 + 1)))) else (mutoscopelaw5_KeyEnds.l0 k x1 x5 x14 (wrap64 (x15 + 1)))) else (none)) else (none)) else (mutoscopelaw5_KeyEnds.l1 k x1 x5 (x5.length : Int) 0)
def mutoscopelaw5_KeyEnds.l1 : Nat → Int → List (S34) → Int → Int → Option (Bool)
 | 0, _, _, _, _ => none
 | k + 1, x1, x5, x35, x36 => if x36 < x35 then (if 0 ≤ x36 then (if x36 < (x5.length : Int) then ((key_At.f k x5 ((rd_T34 x5 x36).f0) 0).bind fun t295 => (if t295 = ((rd_T34 x5 x36).f1) then ((key_Find.f k x5 ((rd_T34 x5 x36).f0)).bind fun t298 => (if t298 = x36 then (mutoscopelaw5_KeyEnds.l1 k x1 x5 x35 (wrap64 (x36 + 1))) else (none))) else (none))) else (none)) else (none)) else (if (x5.length : Int) = 0 then ((key_At.f k x5 x1 x1).bind fun t299 => (if t299 = x1 then ((mutoscopelaw5_known.f k).bind fun t300 => (some t300)) else (none))) else ((key_Find.f k x5 (Go.bits .and .i64 x1 255)).bind fun t301 => ((key_At.f k x5 (Go.bits .and .i64 x1 255) 0).bind fun t302 => (if t301 < 0 then (if 0 < (x5.length : Int) then (if t302 = ((rd_T34 x5 0).f1) then ((mutoscopelaw5_known.f k).bind fun t304 => (some t304)) else (none)) else (none)) else (if t301 = (wrap64 ((x5.length : Int) - 1)) then (if 0 ≤ t301 then (if t301 < (x5.length : Int) then (if t302 = ((rd_T34 x5 t301).f1) then ((mutoscopelaw5_known.f k).bind fun t306 => (some t306)) else (none)) else (none)) else (none)) else (if 0 ≤ t301 then (if t301 < (x5.length : Int) then (if 0 ≤ (wrap64 (t301 + 1)) then (if (wrap64 (t301 + 1)) < (x5.length : Int) then (if t302 ≥ (mn ((rd_T34 x5 t301).f1) ((rd_T34 x5 (wrap64 (t301 + 1))).f1)) then (if t302 ≤ (mx ((rd_T34 x5 t301).f1) ((rd_T34 x5 (wrap64 (t301 + 1))).f1)) then ((mutoscopelaw5_known.f k).bind fun t311 => (some t311)) else (none)) else (none)) else (none)) else (none)) else (none)) else (none)))))))
end
def mutoscopelaw5_KeyEnds.f (k : Nat) (l0 : List (S34)) (a1 : Int) : Option (Bool) := (mutoscopelaw5_rising.f k l0).bind fun t288 => (mutoscopelaw5_KeyEnds.l0 k a1 t288 (t288.length : Int) 0)
def mutoscopelaw5_KeyEnds.T11 : Bool × List (List Nat × List Nat) := (true, [([], []), ([], []), ([], []), ([1, 2], [1, 2]), ([3], [3]), ([4], [4]), ([0, 5], [0, 5]), ([], []), ([], []), ([7, 8], [7, 8]), ([9], [9]), ([10], [10]), ([6, 11], [6, 11]), ([12, 6], [12]), ([13], [13]), ([13], [13]), ([13], [13]), ([15, 16, 13], [13, 15, 16]), ([17, 13], [13, 17]), ([18, 13], [13, 18]), ([14, 19, 13, 13], [13, 14, 19]), ([13], [13]), ([20, 21, 13], [13, 20, 21]), ([13, 22], [13, 22])])
def mutoscopelaw5_KeyEnds.B11 : List Nat := [0, 0, 0, 6, 14, 30, 63, 0, 0, 384, 896, 1920, 4095, 8191, 16383, 16383, 16383, 114687, 245759, 507903, 1048575, 16383, 4194303, 8388607]
theorem mutoscopelaw5_KeyEnds.tab11 : rtab .any (opsOf Try.f6 11) = mutoscopelaw5_KeyEnds.T11 := by kernel_rfl
theorem mutoscopelaw5_KeyEnds.bits11 : waitsOk mutoscopelaw5_KeyEnds.T11.2 mutoscopelaw5_KeyEnds.B11 = true := by kernel_rfl
def mutoscopelaw5_KeyEnds.T23 : Bool × List (List Nat × List Nat) := (true, [([], []), ([], []), ([], []), ([1, 2], [1, 2]), ([3], [3]), ([4], [4]), ([], []), ([], []), ([7], [7]), ([6, 8], [6, 8]), ([9], [9]), ([10], [10]), ([5, 11], [5, 11]), ([0, 12], [0, 12]), ([13], [13]), ([14], [14]), ([14], [14]), ([14], [14]), ([16, 17, 14], [14, 16, 17]), ([18, 14], [14, 18]), ([19, 14], [14, 19]), ([14], [14]), ([14], [14]), ([22, 14], [14, 22]), ([21, 23, 14], [14, 21, 23]), ([24, 14], [14, 24]), ([25, 14], [14, 25]), ([20, 26, 14], [14, 20, 26]), ([15, 27, 14], [14, 15, 27]), ([14, 28], [14, 28]), ([29, 14], [29]), ([30, 30], [30]), ([30, 31], [30, 31]), ([32, 31, 0, 1, 2, 3, 4, 5, 6, 7, 8, 9, 10, 11, 12, 13, 14, 15, 16, 17, 18, 19, 20, 21, 22, 23, 24, 25, 26, 27, 28, 29, 30, 31, 32], [32])])
def mutoscopelaw5_KeyEnds.B23 : List Nat := [0, 0, 0, 6, 14, 30, 0, 0, 128, 448, 960, 1984, 4094, 8191, 16383, 32767, 32767, 32767, 229375, 491519, 1015807, 32767, 32767, 4227071, 14712831, 31490047, 65044479, 134184959, 268435455, 536870911, 1073741823, 2147483647, 4294967295, 8589934591]
theorem mutoscopelaw5_KeyEnds.tab23 : rtab .any (opsOf Try.f6 23) = mutoscopelaw5_KeyEnds.T23 := by kernel_rfl
theorem mutoscopelaw5_KeyEnds.bits23 : waitsOk mutoscopelaw5_KeyEnds.T23.2 mutoscopelaw5_KeyEnds.B23 = true := by kernel_rfl
set_option maxHeartbeats 8000000 in
set_option maxRecDepth 100000 in
theorem mutoscopelaw5_KeyEnds.calls (k : Nat) (A0 : Option Addr) (c0 : Nat) (l0 : List (S34)) (a1 : Int) (r : Bool) (w : World) (hr0 : Kd.C k34 w A0 l0.length l0) (hc0 : l0.length ≤ c0) (h : mutoscopelaw5_KeyEnds.f k l0 a1 = some r) :
  Calls Try.prog 6 #[.slice A0 l0.length c0, .int .i64 a1] w fun e w' => e = .returned (.bool r) ∧ Below w.heap.size w w' := by
 have hu23 := Try.underlying23
 have HR0 := Aside0.mk hr0
 have HC0 := Aside0.mk hc0
 clear hr0 hc0
 have HB := Aside0.mk (Below.refl w.heap.size w)
 have H : ((mutoscopelaw5_rising.f k l0).bind fun t288 => (mutoscopelaw5_KeyEnds.l0 k a1 t288 (t288.length : Int) 0)) = some r := h
 clear h
 replace H := Option.bind_eq_some_iff.mp H
 obtain ⟨t288, A30, H⟩ := H
 replace H : (mutoscopelaw5_KeyEnds.l0 k a1 t288 (t288.length : Int) 0) = some r := H
 have A3 := Aside0.mk A30
 clear A30
 have H' := Aside0.mk H
 clear H
 go_enter Try.func6, Try.ntmps6
 go_wp2_with (first | ((with_reducible refine gate_callee (f := 17) rfl ?_); refine goesL_ (some 12) rfl rfl Try.func17 (by kernel_rfl) rfl #[.slice A0 l0.length c0] rfl (by (try simp only [List.map_toArray, List.map_cons, List.map_nil]); first | done | rfl | (simp only [List.length_drop, List.length_take]; rfl)) ?_; (with_reducible refine (mutoscopelaw5_rising.calls k _ _ l0 t288 _ ?side1 ?side2 A3.out).mono ?_); (case side1 => repeat (first | exact HR0.out | (with_reducible refine Kd.C_alloc ?_ _) | (with_reducible refine Kd.C_drewN ?_ _) | (with_reducible refine Kd.C_drew ?_))); (case side2 => exact HC0.out); rintro e w4 ⟨v289, rfl, ho0, hb⟩; refine ⟨_, rfl, ?_⟩; have n0_ := Aside0.mk (Kd.R_lower ho0 (below_size (by repeat (first | (with_reducible first | exact HB.out | apply below_alloc | apply pw_below_drewN | apply below_drew1) | exact HB.out)))); have n1_ := Aside0.mk (below_step (by repeat (first | (with_reducible first | exact HB.out | apply below_alloc | apply pw_below_drewN | apply below_drew1) | exact HB.out)) hb); clear HB; have HO290 := n0_; have HB := n1_; clear n0_ n1_; (try clear hb); (try clear hb2); (try clear hk); (try clear hi); (try clear ho0); obtain ⟨Ao5, co5, eo5⟩ := Kd.R_slice HO290.out; subst eo5))
 go_loopg [15] k (fun kq v15 w' => ∃ (x5_1 : List (S34)) (x15_1 : Int), v15 = .int .i64 x15_1 ∧ Aside0 (mutoscopelaw5_KeyEnds.l0 kq a1 x5_1 (t288.length : Int) x15_1 = some r) ∧ Aside0 (kq ≤ k) ∧ Aside0 (Kd.R k34 34 w' w.heap.size (fun _ => True) (.slice Ao5 t288.length co5) x5_1) ∧ Aside0 (Below w.heap.size w w'))
 case atStart => exact ⟨(t288), (0), (by first | rfl | (simp; done) | (simp [*]; done)), H', ⟨Nat.le_refl _⟩, ⟨by (with_reducible repeat (first | apply Kd.R_alloc | apply Kd.R_drewN | apply Kd.R_drew)); exact HO290.out⟩, ⟨by repeat (first | (with_reducible first | exact HB.out | apply below_alloc | apply pw_below_drewN | apply below_drew1) | exact HB.out)⟩⟩
 case round =>
  clear H'
  try clear c1
  try clear p2
  obtain ⟨x5_1, x15_1, rfl, HA, HK1, HO_5, HB⟩ := hrel
  have hl5_1 := (Kd.R_reads' HO_5.out).1
  rw [hl5_1] at HO_5
  (try simp only [hl5_1])
  cases gk with
  | zero => exact absurd HA.out (by simp [mutoscopelaw5_KeyEnds.l0])
  | succ k1 =>
   have H := HA.out
   clear HA
   simp only [mutoscopelaw5_KeyEnds.l0] at H
   by_cases c6 : x15_1 < (t288.length : Int)
   ·rw [if_pos c6] at H
    have c6b0 : decide (x15_1 < (t288.length : Int)) = true := decide_eq_true c6
    clear c6
    by_cases c7 : 0 ≤ x15_1
    ·rw [if_pos c7] at H
     have c7b0 : decide (0 ≤ x15_1) = true := decide_eq_true c7
     clear c7
     by_cases c8 : x15_1 < (x5_1.length : Int)
     ·rw [if_pos c8] at H
      have c8b0 : decide (x15_1 < (x5_1.length : Int)) = true := decide_eq_true c8
      clear c8
      by_cases c9 : ((rd_T34 x5_1 x15_1).f2) = 2
      ·rw [if_pos c9] at H
       have c9b0 : (((rd_T34 x5_1 x15_1).f2) == 2) = true := beq_iff_eq.mpr c9
       have c9b1 : (((rd_T34 x5_1 x15_1).f2) != 2) = false := bne_eq_false_iff_eq.mpr c9
       clear c9
       obtain ⟨y292, hy292⟩ : ∃ y_ : List (S34), y_ = (x5_1.set (x15_1 : Int).toNat (⟨(rd_T34 x5_1 x15_1).f0, (rd_T34 x5_1 x15_1).f1, 1, (⟨(rd_T34 x5_1 x15_1).f3.f0, (rd_T34 x5_1 x15_1).f3.f1, (rd_T34 x5_1 x15_1).f3.f2, (rd_T34 x5_1 x15_1).f3.f3⟩ : S23)⟩ : S34)) := ⟨_, rfl⟩
       replace H : (mutoscopelaw5_KeyEnds.l0 k1 a1 (y292.set (x15_1 : Int).toNat (⟨(rd_T34 y292 x15_1).f0, (rd_T34 y292 x15_1).f1, (rd_T34 y292 x15_1).f2, (⟨0, 0, 0, 0⟩ : S23)⟩ : S34)) (t288.length : Int) (wrap64 (x15_1 + 1))) = some r := by first | (rw [hy292]; with_reducible exact H) | (have H2_ := (Option.bind_some _ _).symm.trans H; rw [hy292]; with_reducible exact H2_) | (have H2_ := (Option.bind_some _ _).symm.trans H; with_reducible exact H2_) | with_reducible exact H | (rw [hy292]; exact H) | exact H
       have Ny292 := Aside0.mk hy292
       clear hy292
       obtain ⟨y293, hy293⟩ : ∃ y_ : List (S34), y_ = (y292.set (x15_1 : Int).toNat (⟨(rd_T34 y292 x15_1).f0, (rd_T34 y292 x15_1).f1, (rd_T34 y292 x15_1).f2, (⟨0, 0, 0, 0⟩ : S23)⟩ : S34)) := ⟨_, rfl⟩
       replace H : (mutoscopelaw5_KeyEnds.l0 k1 a1 y293 (t288.length : Int) (wrap64 (x15_1 + 1))) = some r := by first | (rw [hy293]; with_reducible exact H) | (have H2_ := (Option.bind_some _ _).symm.trans H; rw [hy293]; with_reducible exact H2_) | (have H2_ := (Option.bind_some _ _).symm.trans H; with_reducible exact H2_) | with_reducible exact H | (rw [hy293]; exact H) | exact H
       have Ny293 := Aside0.mk hy293
       clear hy293
       have H' := Aside0.mk H
       clear H
       have p291 : 0 ≤ (x15_1 : Int) := of_decide_eq_true (by first | (with_reducible assumption) | assumption)
       have q291 : x15_1 < (x5_1.length : Int) := of_decide_eq_true (by first | (with_reducible assumption) | assumption)
       obtain ⟨ad291, e291, hx291_0, hx291_1, hx291_2, hx291_3, hx291_4, hx291_5, hx291_6⟩ := at_T34 (Kd.R_reads' HO_5.out).2.2 x15_1 p291 q291
       cases e291
       replace p291 := eq_true p291
       replace q291 := eq_true q291
       have p10 : 0 ≤ (x15_1 : Int) := of_decide_eq_true (by first | (with_reducible assumption) | assumption)
       have q10 : (x15_1 : Int) < ((x5_1.length : Int) : Int) := of_decide_eq_true (by first | (with_reducible assumption) | assumption)
       obtain ⟨go10, co10, eo10, gb10, gl10, cl10, HG10⟩ := Kd.R_form HO_5.out (by omega)
       (first | cases eo10 | (injection eo10 with ea_ en_ ec_; (first | subst ea_ | (injection ea_ with ea_; subst ea_)); subst ec_; clear en_))
       have GB10 := Aside0.mk gb10
       have GG10 := Aside0.mk HG10
       clear gb10 gl10 HG10
       (first | simp only [add_plain] at hx291_0 | skip)
       (first | simp only [add_plain] at hx291_1 | skip)
       (first | simp only [add_plain] at hx291_2 | skip)
       (first | simp only [add_plain] at hx291_3 | skip)
       (first | simp only [add_plain] at hx291_4 | skip)
       (first | simp only [add_plain] at hx291_5 | skip)
       (first | simp only [add_plain] at hx291_6 | skip)
       obtain ⟨ce10, hcl10, hM10, hcc10, hfr10⟩ := Kd.R_elem HO_5.out z34 (x15_1 : Int) p10 q10
       obtain rfl := k34_openM hM10
       have hx10_0 : wr.cell? ⟨go10, (x15_1 : Int).toNat * 7, none⟩ = some (.int .i64 ((rd_T34 x5_1 x15_1).f0)) := hcc10 0 _ rfl
       have hx10_1 : wr.cell? ⟨go10, (x15_1 : Int).toNat * 7 + 1, none⟩ = some (.int .i64 ((rd_T34 x5_1 x15_1).f1)) := hcc10 1 _ rfl
       have hx10_2 : wr.cell? ⟨go10, (x15_1 : Int).toNat * 7 + 2, none⟩ = some (.int .i64 ((rd_T34 x5_1 x15_1).f2)) := hcc10 2 _ rfl
       have hx10_3 : wr.cell? ⟨go10, (x15_1 : Int).toNat * 7 + 3, none⟩ = some (.int .i64 ((rd_T34 x5_1 x15_1).f3.f0)) := hcc10 3 _ rfl
       have hx10_4 : wr.cell? ⟨go10, (x15_1 : Int).toNat * 7 + 4, none⟩ = some (.int .i64 ((rd_T34 x5_1 x15_1).f3.f1)) := hcc10 4 _ rfl
       have hx10_5 : wr.cell? ⟨go10, (x15_1 : Int).toNat * 7 + 5, none⟩ = some (.int .i64 ((rd_T34 x5_1 x15_1).f3.f2)) := hcc10 5 _ rfl
       have hx10_6 : wr.cell? ⟨go10, (x15_1 : Int).toNat * 7 + 6, none⟩ = some (.int .i64 ((rd_T34 x5_1 x15_1).f3.f3)) := hcc10 6 _ rfl
       have hf10_0 : wr.frozen? ⟨go10, (x15_1 : Int).toNat * 7, none⟩ = false := hfr10 0
       have hf10_1 : wr.frozen? ⟨go10, (x15_1 : Int).toNat * 7 + 1, none⟩ = false := hfr10 1
       have hf10_2 : wr.frozen? ⟨go10, (x15_1 : Int).toNat * 7 + 2, none⟩ = false := hfr10 2
       have hf10_3 : wr.frozen? ⟨go10, (x15_1 : Int).toNat * 7 + 3, none⟩ = false := hfr10 3
       have hf10_4 : wr.frozen? ⟨go10, (x15_1 : Int).toNat * 7 + 4, none⟩ = false := hfr10 4
       have hf10_5 : wr.frozen? ⟨go10, (x15_1 : Int).toNat * 7 + 5, none⟩ = false := hfr10 5
       have hf10_6 : wr.frozen? ⟨go10, (x15_1 : Int).toNat * 7 + 6, none⟩ = false := hfr10 6
       clear hcl10 hcc10 hfr10 hM10
       replace p10 := eq_true p10
       replace q10 := eq_true q10
       have HX12 := Aside0.mk (show Kd.R k34 34 wr w.heap.size (fun _ => True) (.slice (some ⟨go10, 0, none⟩) x5_1.length co5) x5_1 from (by (with_reducible repeat (first | apply Kd.R_alloc | apply Kd.R_drewN | apply Kd.R_drew)); exact HO_5.out))
       obtain ⟨ce12, hcl12, hM12, hcc12, hfr12⟩ := Kd.R_elem HX12.out z34 (x15_1 : Int) (of_decide_eq_true (by first | (with_reducible assumption) | assumption)) (by have h_ : (x15_1 : Int) < ((x5_1.length : Int) : Int) := of_decide_eq_true (by first | (with_reducible assumption) | assumption); first | exact h_ | (have e_ := (Kd.R_reads' HO_5.out).1; omega) | simpa using h_)
       obtain rfl := k34_openM hM12
       have HP12 := Kd.R_seg HX12.out (x15_1 : Int) (of_decide_eq_true (by first | (with_reducible assumption) | assumption)) (by have h_ : (x15_1 : Int) < ((x5_1.length : Int) : Int) := of_decide_eq_true (by first | (with_reducible assumption) | assumption); first | exact h_ | (have e_ := (Kd.R_reads' HO_5.out).1; omega) | simpa using h_) (seg := [.int .i64 1]) (j := 2) hcl12 hcc12 (show 3 ≤ 7 from by decide) (x' := (⟨(rd_T34 x5_1 x15_1).f0, (rd_T34 x5_1 x15_1).f1, 1, (⟨(rd_T34 x5_1 x15_1).f3.f0, (rd_T34 x5_1 x15_1).f3.f1, (rd_T34 x5_1 x15_1).f3.f2, (rd_T34 x5_1 x15_1).f3.f3⟩ : S23)⟩ : S34)) (k34_mkM _ _ _ (⟨(rd_T34 x5_1 x15_1).f0, (rd_T34 x5_1 x15_1).f1, 1, (⟨(rd_T34 x5_1 x15_1).f3.f0, (rd_T34 x5_1 x15_1).f3.f1, (rd_T34 x5_1 x15_1).f3.f2, (rd_T34 x5_1 x15_1).f3.f3⟩ : S23)⟩ : S34) ) (fun _ hk => hk)
       have hx12_2 := hcc12 2 _ rfl
       (try simp only [show (k34).sz = 7 from rfl, Nat.mul_one, Nat.add_zero] at hx12_2)
       have hf12_2 := hfr12 2
       (try simp only [show (k34).sz = 7 from rfl, Nat.mul_one, Nat.add_zero] at hf12_2)
       clear hcl12 hcc12 hfr12 hM12
       go_wp2_with (first | ((with_reducible refine gate_store (t := 3) (p := 30) rfl ?_); refine store_event (t := 3) (p := 30) (v := ?vo_w13) (w1 := (wr.setCell ⟨go10, (x15_1 : Int).toNat * 7 + 2, none⟩ (.int .i64 1))) ?hg ?ho ?hn ?hr ?_; (case ho => rfl); (case hg => rfl); (case hn => rfl); (case hr => first | (go_simp; done) | (go_simp; rfl)); intro w13 hw; have hg : wr.grownBy w13 (some go10) := (by rw [hw]; exact HP12.2); have hp_ : Kd.R k34 34 w13 w.heap.size (fun _ => True) (.slice (some ⟨go10, 0, none⟩) x5_1.length co5) y292 := (by rw [hw, Ny292.out]; exact HP12.1); clear HP12; have n0_ := Aside0.mk (hp_); have n1_ := Aside0.mk ((by rw [hw]; exact below_set (HB.out) GB10.out : Below w.heap.size w w13)); clear HO_5; clear HB; have HO_5 := n0_; have HB := n1_; clear n0_ n1_; clear hg hw hp_; have p11 : 0 ≤ (x15_1 : Int) := of_decide_eq_true (by first | (with_reducible assumption) | assumption); have q11 : (x15_1 : Int) < ((x5_1.length : Int) : Int) := of_decide_eq_true (by first | (with_reducible assumption) | assumption); obtain ⟨ce11, hcl11, hM11, hcc11, hfr11⟩ := Kd.R_elem HO_5.out z34 (x15_1 : Int) p11 q11; obtain rfl := k34_openM hM11; have hx11_0 : w13.cell? ⟨go10, (x15_1 : Int).toNat * 7, none⟩ = some (.int .i64 ((rd_T34 y292 x15_1).f0)) := hcc11 0 _ rfl; have hx11_1 : w13.cell? ⟨go10, (x15_1 : Int).toNat * 7 + 1, none⟩ = some (.int .i64 ((rd_T34 y292 x15_1).f1)) := hcc11 1 _ rfl; have hx11_2 : w13.cell? ⟨go10, (x15_1 : Int).toNat * 7 + 2, none⟩ = some (.int .i64 ((rd_T34 y292 x15_1).f2)) := hcc11 2 _ rfl; have hx11_3 : w13.cell? ⟨go10, (x15_1 : Int).toNat * 7 + 3, none⟩ = some (.int .i64 ((rd_T34 y292 x15_1).f3.f0)) := hcc11 3 _ rfl; have hx11_4 : w13.cell? ⟨go10, (x15_1 : Int).toNat * 7 + 4, none⟩ = some (.int .i64 ((rd_T34 y292 x15_1).f3.f1)) := hcc11 4 _ rfl; have hx11_5 : w13.cell? ⟨go10, (x15_1 : Int).toNat * 7 + 5, none⟩ = some (.int .i64 ((rd_T34 y292 x15_1).f3.f2)) := hcc11 5 _ rfl; have hx11_6 : w13.cell? ⟨go10, (x15_1 : Int).toNat * 7 + 6, none⟩ = some (.int .i64 ((rd_T34 y292 x15_1).f3.f3)) := hcc11 6 _ rfl; have hf11_0 : w13.frozen? ⟨go10, (x15_1 : Int).toNat * 7, none⟩ = false := hfr11 0; have hf11_1 : w13.frozen? ⟨go10, (x15_1 : Int).toNat * 7 + 1, none⟩ = false := hfr11 1; have hf11_2 : w13.frozen? ⟨go10, (x15_1 : Int).toNat * 7 + 2, none⟩ = false := hfr11 2; have hf11_3 : w13.frozen? ⟨go10, (x15_1 : Int).toNat * 7 + 3, none⟩ = false := hfr11 3; have hf11_4 : w13.frozen? ⟨go10, (x15_1 : Int).toNat * 7 + 4, none⟩ = false := hfr11 4; have hf11_5 : w13.frozen? ⟨go10, (x15_1 : Int).toNat * 7 + 5, none⟩ = false := hfr11 5; have hf11_6 : w13.frozen? ⟨go10, (x15_1 : Int).toNat * 7 + 6, none⟩ = false := hfr11 6; clear hcl11 hcc11 hfr11 hM11; replace p11 := eq_true p11; replace q11 := eq_true q11; have HX14 := Aside0.mk (show Kd.R k34 34 w13 w.heap.size (fun _ => True) (.slice (some ⟨go10, 0, none⟩) x5_1.length co5) y292 from (by (with_reducible repeat (first | apply Kd.R_alloc | apply Kd.R_drewN | apply Kd.R_drew)); exact HO_5.out)); obtain ⟨ce14, hcl14, hM14, hcc14, hfr14⟩ := Kd.R_elem HX14.out z34 (x15_1 : Int) (of_decide_eq_true (by first | (with_reducible assumption) | assumption)) (by have h_ : (x15_1 : Int) < ((x5_1.length : Int) : Int) := of_decide_eq_true (by first | (with_reducible assumption) | assumption); first | exact h_ | (have e_ := (Kd.R_reads' HO_5.out).1; omega) | simpa using h_); obtain rfl := k34_openM hM14; have HP14 := Kd.R_seg HX14.out (x15_1 : Int) (of_decide_eq_true (by first | (with_reducible assumption) | assumption)) (by have h_ : (x15_1 : Int) < ((x5_1.length : Int) : Int) := of_decide_eq_true (by first | (with_reducible assumption) | assumption); first | exact h_ | (have e_ := (Kd.R_reads' HO_5.out).1; omega) | simpa using h_) (seg := [.int .i64 0, .int .i64 0, .int .i64 0, .int .i64 0]) (j := 3) hcl14 hcc14 (show 7 ≤ 7 from by decide) (x' := (⟨(rd_T34 y292 x15_1).f0, (rd_T34 y292 x15_1).f1, (rd_T34 y292 x15_1).f2, (⟨0, 0, 0, 0⟩ : S23)⟩ : S34)) (k34_mkM _ _ _ (⟨(rd_T34 y292 x15_1).f0, (rd_T34 y292 x15_1).f1, (rd_T34 y292 x15_1).f2, (⟨0, 0, 0, 0⟩ : S23)⟩ : S34) ) (fun _ hk => hk); have hx14_3 := hcc14 3 _ rfl; (try simp only [show (k34).sz = 7 from rfl, Nat.mul_one, Nat.add_zero] at hx14_3); have hf14_3 := hfr14 3; (try simp only [show (k34).sz = 7 from rfl, Nat.mul_one, Nat.add_zero] at hf14_3); have hx14_4 := hcc14 4 _ rfl; (try simp only [show (k34).sz = 7 from rfl, Nat.mul_one, Nat.add_zero] at hx14_4); have hf14_4 := hfr14 4; (try simp only [show (k34).sz = 7 from rfl, Nat.mul_one, Nat.add_zero] at hf14_4); have hx14_5 := hcc14 5 _ rfl; (try simp only [show (k34).sz = 7 from rfl, Nat.mul_one, Nat.add_zero] at hx14_5); have hf14_5 := hfr14 5; (try simp only [show (k34).sz = 7 from rfl, Nat.mul_one, Nat.add_zero] at hf14_5); have hx14_6 := hcc14 6 _ rfl; (try simp only [show (k34).sz = 7 from rfl, Nat.mul_one, Nat.add_zero] at hx14_6); have hf14_6 := hfr14 6; (try simp only [show (k34).sz = 7 from rfl, Nat.mul_one, Nat.add_zero] at hf14_6); clear hcl14 hcc14 hfr14 hM14) | ((with_reducible refine gate_store (t := 23) (p := 32) rfl ?_); refine store_event (t := 23) (p := 32) (v := ?vo_w15) (w1 := ((((w13.setCell ⟨go10, (x15_1 : Int).toNat * 7 + 3, none⟩ (.int .i64 0)).setCell ⟨go10, (x15_1 : Int).toNat * 7 + 4, none⟩ (.int .i64 0)).setCell ⟨go10, (x15_1 : Int).toNat * 7 + 5, none⟩ (.int .i64 0)).setCell ⟨go10, (x15_1 : Int).toNat * 7 + 6, none⟩ (.int .i64 0))) ?hg ?ho ?hn ?hr ?_; (case ho => rfl); (case hg => rfl); (case hn => rfl); (case hr => first | (go_simp; done) | (go_simp; rfl)); intro w15 hw; have hg : w13.grownBy w15 (some go10) := (by rw [hw]; exact HP14.2); have hp_ : Kd.R k34 34 w15 w.heap.size (fun _ => True) (.slice (some ⟨go10, 0, none⟩) x5_1.length co5) y293 := (by rw [hw, Ny293.out]; exact HP14.1); clear HP14; have n0_ := Aside0.mk (hp_); have n1_ := Aside0.mk ((by rw [hw]; exact below_set (below_set (below_set (below_set (HB.out) GB10.out) GB10.out) GB10.out) GB10.out : Below w.heap.size w w15)); clear HO_5; clear HB; have HO_5 := n0_; have HB := n1_; clear n0_ n1_; clear hg hw hp_))
       (try simp only [← hl5_1])
       go_roundg k1
       case measure => have := HK1.out; omega
       case rel => exact ⟨(y293), (wrap64 (x15_1 + 1)), (by first | rfl | (simp; done) | (simp [*]; done)), H', ⟨by have := HK1.out; omega⟩, ⟨by (try simp only [hl5_1]); (with_reducible repeat (first | apply Kd.R_alloc | apply Kd.R_drewN | apply Kd.R_drew)); exact HO_5.out⟩, ⟨by repeat (first | (with_reducible first | exact HB.out | apply below_alloc | apply pw_below_drewN | apply below_drew1) | exact HB.out)⟩⟩
      ·rw [if_neg c9] at H
       have c9b0 : (((rd_T34 x5_1 x15_1).f2) == 2) = false := beq_eq_false_iff_ne.mpr c9
       have c9b1 : (((rd_T34 x5_1 x15_1).f2) != 2) = true := bne_iff_ne.mpr c9
       have H' := Aside0.mk H
       clear H
       have p291 : 0 ≤ (x15_1 : Int) := of_decide_eq_true (by first | (with_reducible assumption) | assumption)
       have q291 : x15_1 < (x5_1.length : Int) := of_decide_eq_true (by first | (with_reducible assumption) | assumption)
       obtain ⟨ad291, e291, hx291_0, hx291_1, hx291_2, hx291_3, hx291_4, hx291_5, hx291_6⟩ := at_T34 (Kd.R_reads' HO_5.out).2.2 x15_1 p291 q291
       cases e291
       replace p291 := eq_true p291
       replace q291 := eq_true q291
       go_wp2
       (try simp only [← hl5_1])
       go_roundg k1
       case measure => have := HK1.out; omega
       case rel => exact ⟨(x5_1), (wrap64 (x15_1 + 1)), (by first | rfl | (simp; done) | (simp [*]; done)), H', ⟨by have := HK1.out; omega⟩, ⟨by (try simp only [hl5_1]); (with_reducible repeat (first | apply Kd.R_alloc | apply Kd.R_drewN | apply Kd.R_drew)); exact HO_5.out⟩, ⟨by repeat (first | (with_reducible first | exact HB.out | apply below_alloc | apply pw_below_drewN | apply below_drew1) | exact HB.out)⟩⟩
     ·rw [if_neg c8] at H
      exact absurd H (by simp)
    ·rw [if_neg c7] at H
     exact absurd H (by simp)
   ·rw [if_neg c6] at H
    have c6b0 : decide (x15_1 < (t288.length : Int)) = false := decide_eq_false c6
    have c6b9 := c6b0
    rw [hl5_1] at c6b9
    clear c6
    have H' := Aside0.mk H
    clear H
    go_wp2
    go_loopg [36] k1 (fun kq v36 w' => ∃ (x36_2 : Int), v36 = .int .i64 x36_2 ∧ Aside0 (mutoscopelaw5_KeyEnds.l1 kq a1 x5_1 (x5_1.length : Int) x36_2 = some r) ∧ Aside0 (kq ≤ k1) ∧ Aside0 (Kd.R k34 34 w' w.heap.size (fun _ => True) (.slice Ao5 x5_1.length co5) x5_1) ∧ Aside0 (Below w.heap.size w w'))
    case atStart => exact ⟨(0), (by first | rfl | (simp; done) | (simp [*]; done)), H', ⟨Nat.le_refl _⟩, ⟨by (try simp only [hl5_1]); (with_reducible repeat (first | apply Kd.R_alloc | apply Kd.R_drewN | apply Kd.R_drew)); exact HO_5.out⟩, ⟨by repeat (first | (with_reducible first | exact HB.out | apply below_alloc | apply pw_below_drewN | apply below_drew1) | exact HB.out)⟩⟩
    case round =>
     clear H'
     try clear c1
     try clear p1
     try clear q1
     try clear hx1
     try clear p2
     try clear q2
     try clear hx2
     try clear c6
     try clear c6b0
     try clear p6
     try clear c7
     try clear c7b0
     try clear c8
     try clear c8b0
     try clear c9
     try clear c9b0
     try clear c9b1
     try clear c10
     try clear p10
     try clear q10
     try clear hx10
     try clear hf10
     try clear c11
     try clear p11
     try clear q11
     try clear hx11
     try clear hf11
     try clear c12
     try clear hx12
     try clear hf12
     try clear c14
     try clear hx14
     try clear hf14
     try clear hx10_0
     try clear hx10_1
     try clear hx10_2
     try clear hx10_3
     try clear hx10_4
     try clear hx10_5
     try clear hx10_6
     try clear hx11_0
     try clear hx11_1
     try clear hx11_2
     try clear hx11_3
     try clear hx11_4
     try clear hx11_5
     try clear hx11_6
     try clear hx12_2
     try clear hx14_3
     try clear hx14_4
     try clear hx14_5
     try clear hx14_6
     try clear hx291_0
     try clear hx291_1
     try clear hx291_2
     try clear hx291_3
     try clear hx291_4
     try clear hx291_5
     try clear hx291_6
     try clear p10
     try clear p11
     try clear p2
     try clear p291
     try clear q10
     try clear q11
     try clear q291
     obtain ⟨x36_2, rfl, HA, HK2, HO_5, HB⟩ := hrel
     cases gk with
     | zero => exact absurd HA.out (by simp [mutoscopelaw5_KeyEnds.l1])
     | succ k2 =>
      have H := HA.out
      clear HA
      simp only [mutoscopelaw5_KeyEnds.l1] at H
      by_cases c16 : x36_2 < (x5_1.length : Int)
      ·rw [if_pos c16] at H
       have c16b0 : decide (x36_2 < (x5_1.length : Int)) = true := decide_eq_true c16
       clear c16
       by_cases c17 : 0 ≤ x36_2
       ·rw [if_pos c17] at H
        have c17b0 : decide (0 ≤ x36_2) = true := decide_eq_true c17
        clear c17
        by_cases c18 : x36_2 < (x5_1.length : Int)
        ·rw [if_pos c18] at H
         have c18b0 : decide (x36_2 < (x5_1.length : Int)) = true := decide_eq_true c18
         clear c18
         replace H := Option.bind_eq_some_iff.mp H
         obtain ⟨t295, A190, H⟩ := H
         replace H : (if t295 = ((rd_T34 x5_1 x36_2).f1) then ((key_Find.f k2 x5_1 ((rd_T34 x5_1 x36_2).f0)).bind fun t298 => (if t298 = x36_2 then (mutoscopelaw5_KeyEnds.l1 k2 a1 x5_1 (x5_1.length : Int) (wrap64 (x36_2 + 1))) else (none))) else (none)) = some r := H
         have A19 := Aside0.mk A190
         clear A190
         by_cases c20 : t295 = ((rd_T34 x5_1 x36_2).f1)
         ·rw [if_pos c20] at H
          have c20b0 : (t295 == ((rd_T34 x5_1 x36_2).f1)) = true := beq_iff_eq.mpr c20
          have c20b1 : (t295 != ((rd_T34 x5_1 x36_2).f1)) = false := bne_eq_false_iff_eq.mpr c20
          clear c20
          replace H := Option.bind_eq_some_iff.mp H
          obtain ⟨t298, A210, H⟩ := H
          replace H : (if t298 = x36_2 then (mutoscopelaw5_KeyEnds.l1 k2 a1 x5_1 (x5_1.length : Int) (wrap64 (x36_2 + 1))) else (none)) = some r := H
          have A21 := Aside0.mk A210
          clear A210
          by_cases c22 : t298 = x36_2
          ·rw [if_pos c22] at H
           have c22b0 : (t298 == x36_2) = true := beq_iff_eq.mpr c22
           have c22b1 : (t298 != x36_2) = false := bne_eq_false_iff_eq.mpr c22
           clear c22
           have H' := Aside0.mk H
           clear H
           try go_wp2
           have n0_ := Aside0.mk (Kd.R_drew HO_5.out)
           have n1_ := Aside0.mk (below_drew1 HB.out)
           clear HO_5
           clear HB
           have HO_5 := n0_
           have HB := n1_
           clear n0_ n1_
           have p294 : 0 ≤ (x36_2 : Int) := of_decide_eq_true (by first | (with_reducible assumption) | assumption)
           have q294 : x36_2 < (x5_1.length : Int) := of_decide_eq_true (by first | (with_reducible assumption) | assumption)
           obtain ⟨ad294, e294, hx294_0, hx294_1, hx294_2, hx294_3, hx294_4, hx294_5, hx294_6⟩ := at_T34 (Kd.R_reads' HO_5.out).2.2 x36_2 p294 q294
           cases e294
           replace p294 := eq_true p294
           replace q294 := eq_true q294
           have p296 : 0 ≤ (x36_2 : Int) := of_decide_eq_true (by first | (with_reducible assumption) | assumption)
           have q296 : x36_2 < (x5_1.length : Int) := of_decide_eq_true (by first | (with_reducible assumption) | assumption)
           obtain ⟨ad296, e296, hx296_0, hx296_1, hx296_2, hx296_3, hx296_4, hx296_5, hx296_6⟩ := at_T34 (Kd.R_reads' HO_5.out).2.2 x36_2 p296 q296
           obtain rfl : ad294 = ad296 := (by injection e296)
           replace p296 := eq_true p296
           replace q296 := eq_true q296
           have p297 : 0 ≤ (x36_2 : Int) := of_decide_eq_true (by first | (with_reducible assumption) | assumption)
           have q297 : x36_2 < (x5_1.length : Int) := of_decide_eq_true (by first | (with_reducible assumption) | assumption)
           obtain ⟨ad297, e297, hx297_0, hx297_1, hx297_2, hx297_3, hx297_4, hx297_5, hx297_6⟩ := at_T34 (Kd.R_reads' HO_5.out).2.2 x36_2 p297 q297
           obtain rfl : ad294 = ad297 := (by injection e297)
           replace p297 := eq_true p297
           replace q297 := eq_true q297
           refine start_ (n := 24) (S := fun w' => w'.cell? (ad294.add ((x36_2).toNat * 7)) = some (.int .i64 ((rd_T34 x5_1 x36_2).f0)) ∧ w'.cell? ⟨(ad294.add ((x36_2).toNat * 7)).block, (ad294.add ((x36_2).toNat * 7)).off + 1, none⟩ = some (.int .i64 ((rd_T34 x5_1 x36_2).f1)) ∧ w'.cell? ⟨(ad294.add ((x36_2).toNat * 7)).block, (ad294.add ((x36_2).toNat * 7)).off + 2, none⟩ = some (.int .i64 ((rd_T34 x5_1 x36_2).f2)) ∧ w'.cell? ⟨(ad294.add ((x36_2).toNat * 7)).block, (ad294.add ((x36_2).toNat * 7)).off + 3, none⟩ = some (.int .i64 ((rd_T34 x5_1 x36_2).f3.f0)) ∧ w'.cell? ⟨(ad294.add ((x36_2).toNat * 7)).block, (ad294.add ((x36_2).toNat * 7)).off + 4, none⟩ = some (.int .i64 ((rd_T34 x5_1 x36_2).f3.f1)) ∧ w'.cell? ⟨(ad294.add ((x36_2).toNat * 7)).block, (ad294.add ((x36_2).toNat * 7)).off + 5, none⟩ = some (.int .i64 ((rd_T34 x5_1 x36_2).f3.f2)) ∧ w'.cell? ⟨(ad294.add ((x36_2).toNat * 7)).block, (ad294.add ((x36_2).toNat * 7)).off + 6, none⟩ = some (.int .i64 ((rd_T34 x5_1 x36_2).f3.f3)) ∧ w'.cell? (ad294.add ((x36_2).toNat * 7)) = some (.int .i64 ((rd_T34 x5_1 x36_2).f0)) ∧ w'.cell? ⟨(ad294.add ((x36_2).toNat * 7)).block, (ad294.add ((x36_2).toNat * 7)).off + 1, none⟩ = some (.int .i64 ((rd_T34 x5_1 x36_2).f1)) ∧ w'.cell? ⟨(ad294.add ((x36_2).toNat * 7)).block, (ad294.add ((x36_2).toNat * 7)).off + 2, none⟩ = some (.int .i64 ((rd_T34 x5_1 x36_2).f2)) ∧ w'.cell? ⟨(ad294.add ((x36_2).toNat * 7)).block, (ad294.add ((x36_2).toNat * 7)).off + 3, none⟩ = some (.int .i64 ((rd_T34 x5_1 x36_2).f3.f0)) ∧ w'.cell? ⟨(ad294.add ((x36_2).toNat * 7)).block, (ad294.add ((x36_2).toNat * 7)).off + 4, none⟩ = some (.int .i64 ((rd_T34 x5_1 x36_2).f3.f1)) ∧ w'.cell? ⟨(ad294.add ((x36_2).toNat * 7)).block, (ad294.add ((x36_2).toNat * 7)).off + 5, none⟩ = some (.int .i64 ((rd_T34 x5_1 x36_2).f3.f2)) ∧ w'.cell? ⟨(ad294.add ((x36_2).toNat * 7)).block, (ad294.add ((x36_2).toNat * 7)).off + 6, none⟩ = some (.int .i64 ((rd_T34 x5_1 x36_2).f3.f3)) ∧ w'.cell? (ad294.add ((x36_2).toNat * 7)) = some (.int .i64 ((rd_T34 x5_1 x36_2).f0)) ∧ w'.cell? ⟨(ad294.add ((x36_2).toNat * 7)).block, (ad294.add ((x36_2).toNat * 7)).off + 1, none⟩ = some (.int .i64 ((rd_T34 x5_1 x36_2).f1)) ∧ w'.cell? ⟨(ad294.add ((x36_2).toNat * 7)).block, (ad294.add ((x36_2).toNat * 7)).off + 2, none⟩ = some (.int .i64 ((rd_T34 x5_1 x36_2).f2)) ∧ w'.cell? ⟨(ad294.add ((x36_2).toNat * 7)).block, (ad294.add ((x36_2).toNat * 7)).off + 3, none⟩ = some (.int .i64 ((rd_T34 x5_1 x36_2).f3.f0)) ∧ w'.cell? ⟨(ad294.add ((x36_2).toNat * 7)).block, (ad294.add ((x36_2).toNat * 7)).off + 4, none⟩ = some (.int .i64 ((rd_T34 x5_1 x36_2).f3.f1)) ∧ w'.cell? ⟨(ad294.add ((x36_2).toNat * 7)).block, (ad294.add ((x36_2).toNat * 7)).off + 5, none⟩ = some (.int .i64 ((rd_T34 x5_1 x36_2).f3.f2)) ∧ w'.cell? ⟨(ad294.add ((x36_2).toNat * 7)).block, (ad294.add ((x36_2).toNat * 7)).off + 6, none⟩ = some (.int .i64 ((rd_T34 x5_1 x36_2).f3.f3))) (ds := []) #[false, false, false, false, false, false, false, false, false, false, false, false, false, false, false, false, false, false, false, false, false, false, false, false] (by kernel_rfl) rfl rfl ⟨hx294_0, hx294_1, hx294_2, hx294_3, hx294_4, hx294_5, hx294_6, hx296_0, hx296_1, hx296_2, hx296_3, hx296_4, hx296_5, hx296_6, hx297_0, hx297_1, hx297_2, hx297_3, hx297_4, hx297_5, hx297_6⟩ (fun hHeld => ?_); refine with_tabW mutoscopelaw5_KeyEnds.tab11 mutoscopelaw5_KeyEnds.bits11 (fun HT_ HW_ => ?_)
           generalize wr.drew = w23 at HO_5 HB hx294_0 hx294_1 hx294_2 hx294_3 hx294_4 hx294_5 hx294_6 hx296_0 hx296_1 hx296_2 hx296_3 hx296_4 hx296_5 hx296_6 hx297_0 hx297_1 hx297_2 hx297_3 hx297_4 hx297_5 hx297_6 hHeld ⊢
           refine pure_ (i := 0) (N := some 39) (v := ?_) (a' := ?_) #[true, false, false, false, false, false, false, false, false, false, false, false, false, false, false, false, false, false, false, false, false, false, false, false] rfl rfl (any_of HT_.out (by kernel_rfl)) (fun _ _ _ h => h) (Or.inl ⟨by rfl, ?_⟩) ?_ ?_
           rotate_left
           ·intro w'
            go_simp
            with_reducible rfl
           rotate_left
           ·simp only [Act.put, List.setIfInBounds_toArray, List.set_cons_zero, List.set_cons_succ, i64_w, i32_w]
            rfl
           refine pure_ (i := 1) (N := some 40) (v := ?_) (a' := ?_) #[true, true, false, false, false, false, false, false, false, false, false, false, false, false, false, false, false, false, false, false, false, false, false, false] rfl rfl (any_of HT_.out (by kernel_rfl)) (fun _ _ _ h => h) (Or.inl ⟨by rfl, ?_⟩) ?_ ?_
           rotate_left
           ·intro w'
            go_simp
            with_reducible rfl
           rotate_left
           ·simp only [Act.put, List.setIfInBounds_toArray, List.set_cons_zero, List.set_cons_succ, i64_w, i32_w]
            rfl
           refine pure_ (i := 2) (N := some 41) (v := ?_) (a' := ?_) #[true, true, true, false, false, false, false, false, false, false, false, false, false, false, false, false, false, false, false, false, false, false, false, false] rfl rfl (any_of HT_.out (by kernel_rfl)) (fun _ _ _ h => h) (Or.inl ⟨by rfl, ?_⟩) ?_ ?_
           rotate_left
           ·intro w'
            go_simp
            with_reducible rfl
           rotate_left
           ·simp only [Act.put, List.setIfInBounds_toArray, List.set_cons_zero, List.set_cons_succ, i64_w, i32_w]
            rfl
           refine pure_ (i := 3) (N := some 42) (v := ?_) (a' := ?_) #[true, true, true, true, false, false, false, false, false, false, false, false, false, false, false, false, false, false, false, false, false, false, false, false] rfl rfl (any_of HT_.out (by kernel_rfl)) (fun _ _ _ h => h) (Or.inl ⟨by rfl, ?_⟩) ?_ ?_
           rotate_left
           ·intro w'
            go_simp
            with_reducible rfl
           rotate_left
           ·simp only [Act.put, List.setIfInBounds_toArray, List.set_cons_zero, List.set_cons_succ, i64_w, i32_w]
            rfl
           refine pure_ (i := 4) (N := some 43) (v := ?_) (a' := ?_) #[true, true, true, true, true, false, false, false, false, false, false, false, false, false, false, false, false, false, false, false, false, false, false, false] rfl rfl (any_of HT_.out (by kernel_rfl)) (fun _ _ _ h => h) (Or.inl ⟨by rfl, ?_⟩) ?_ ?_
           rotate_left
           ·intro w'
            go_simp
            with_reducible rfl
           rotate_left
           ·simp only [Act.put, List.setIfInBounds_toArray, List.set_cons_zero, List.set_cons_succ, i64_w, i32_w]
            rfl
           refine pure_ (i := 7) (N := some 46) (v := ?_) (a' := ?_) #[true, true, true, true, true, false, false, true, false, false, false, false, false, false, false, false, false, false, false, false, false, false, false, false] rfl rfl (any_of HT_.out (by kernel_rfl)) (fun _ _ _ h => h) (Or.inl ⟨by rfl, ?_⟩) ?_ ?_
           rotate_left
           ·intro w'
            go_simp
            with_reducible rfl
           rotate_left
           ·simp only [Act.put, List.setIfInBounds_toArray, List.set_cons_zero, List.set_cons_succ, i64_w, i32_w]
            rfl
           refine pure_ (i := 8) (N := some 47) (v := ?_) (a' := ?_) #[true, true, true, true, true, false, false, true, true, false, false, false, false, false, false, false, false, false, false, false, false, false, false, false] rfl rfl (any_of HT_.out (by kernel_rfl)) (fun _ _ _ h => h) (Or.inl ⟨by rfl, ?_⟩) ?_ ?_
           rotate_left
           ·intro w'
            go_simp
            with_reducible rfl
           rotate_left
           ·simp only [Act.put, List.setIfInBounds_toArray, List.set_cons_zero, List.set_cons_succ, i64_w, i32_w]
            rfl
           refine pure_ (i := 9) (N := some 48) (v := ?_) (a' := ?_) #[true, true, true, true, true, false, false, true, true, true, false, false, false, false, false, false, false, false, false, false, false, false, false, false] rfl rfl (any_of HT_.out (by kernel_rfl)) (fun _ _ _ h => h) (Or.inl ⟨by rfl, ?_⟩) ?_ ?_
           rotate_left
           ·intro w'
            go_simp
            with_reducible rfl
           rotate_left
           ·simp only [Act.put, List.setIfInBounds_toArray, List.set_cons_zero, List.set_cons_succ, i64_w, i32_w]
            rfl
           refine pure_ (i := 10) (N := some 49) (v := ?_) (a' := ?_) #[true, true, true, true, true, false, false, true, true, true, true, false, false, false, false, false, false, false, false, false, false, false, false, false] rfl rfl (any_of HT_.out (by kernel_rfl)) (fun _ _ _ h => h) (Or.inl ⟨by rfl, ?_⟩) ?_ ?_
           rotate_left
           ·intro w'
            go_simp
            with_reducible rfl
           rotate_left
           ·simp only [Act.put, List.setIfInBounds_toArray, List.set_cons_zero, List.set_cons_succ, i64_w, i32_w]
            rfl
           refine take_ (i := 5) (N := some 44) (v := ?_) (a' := ?_) #[true, true, true, true, true, true, false, true, true, true, true, false, false, false, false, false, false, false, false, false, false, false, false, false] rfl rfl (take_ofW HT_.out HW_.out (by kernel_rfl)) (fun _ _ _ h => h) (Or.inl ⟨by rfl, ?_⟩) hHeld ?_ ?_
           rotate_left
           ·rintro w' ⟨s0, s1, s2, s3, s4, s5, s6, s7, s8, s9, s10, s11, s12, s13, s14, s15, s16, s17, s18, s19, s20⟩
            go_simp
            with_reducible rfl
           rotate_left
           ·simp only [Act.put, List.setIfInBounds_toArray, List.set_cons_zero, List.set_cons_succ, i64_w, i32_w]
            rfl
           refine take_ (i := 11) (N := some 50) (v := ?_) (a' := ?_) #[true, true, true, true, true, true, false, true, true, true, true, true, false, false, false, false, false, false, false, false, false, false, false, false] rfl rfl (take_ofW HT_.out HW_.out (by kernel_rfl)) (fun _ _ _ h => h) (Or.inl ⟨by rfl, ?_⟩) hHeld ?_ ?_
           rotate_left
           ·rintro w' ⟨s0, s1, s2, s3, s4, s5, s6, s7, s8, s9, s10, s11, s12, s13, s14, s15, s16, s17, s18, s19, s20⟩
            go_simp
            with_reducible rfl
           rotate_left
           ·simp only [Act.put, List.setIfInBounds_toArray, List.set_cons_zero, List.set_cons_succ, i64_w, i32_w]
            rfl
           refine one_ (i := 6) (N := some 45) #[true, true, true, true, true, true, true, true, true, true, true, true, false, false, false, false, false, false, false, false, false, false, false, false] rfl rfl (one_of HT_.out (by kernel_rfl)) (by decide) (fun K hK => ?_)
           refine goes_ Try.func18 (by kernel_rfl) rfl #[.slice (some ad294) x5_1.length co5, .int .i64 ((rd_T34 x5_1 x36_2).f0), .int .i64 0] (by rfl) rfl rfl (by (try simp only [List.map_toArray, List.map_cons, List.map_nil]); first | done | rfl | (simp only [List.length_drop, List.length_take]; rfl)) ?_
           with_reducible refine (key_At.calls k2 _ _ x5_1 ((rd_T34 x5_1 x36_2).f0) 0 t295 _ ?side1 ?side2 A19.out).mono ?_
           (case side1 => repeat (first | exact (Kd.R_reads' HO_5.out).2.2 | (with_reducible refine Kd.C_alloc ?_ _) | (with_reducible refine Kd.C_drewN ?_ _) | (with_reducible refine Kd.C_drew ?_)))
           (case side2 => exact (Kd.R_reads' HO_5.out).2.1)
           rintro e w24 ⟨rfl, hb⟩
           have HS0_ := (hb.cell (World.block_lt_of_cell? _ _ (hHeld.1))).trans (hHeld.1)
           have HS1_ := (hb.cell (World.block_lt_of_cell? _ _ (hHeld.2.1))).trans (hHeld.2.1)
           have HS2_ := (hb.cell (World.block_lt_of_cell? _ _ (hHeld.2.2.1))).trans (hHeld.2.2.1)
           have HS3_ := (hb.cell (World.block_lt_of_cell? _ _ (hHeld.2.2.2.1))).trans (hHeld.2.2.2.1)
           have HS4_ := (hb.cell (World.block_lt_of_cell? _ _ (hHeld.2.2.2.2.1))).trans (hHeld.2.2.2.2.1)
           have HS5_ := (hb.cell (World.block_lt_of_cell? _ _ (hHeld.2.2.2.2.2.1))).trans (hHeld.2.2.2.2.2.1)
           have HS6_ := (hb.cell (World.block_lt_of_cell? _ _ (hHeld.2.2.2.2.2.2.1))).trans (hHeld.2.2.2.2.2.2.1)
           have HS7_ := (hb.cell (World.block_lt_of_cell? _ _ (hHeld.2.2.2.2.2.2.2.1))).trans (hHeld.2.2.2.2.2.2.2.1)
           have HS8_ := (hb.cell (World.block_lt_of_cell? _ _ (hHeld.2.2.2.2.2.2.2.2.1))).trans (hHeld.2.2.2.2.2.2.2.2.1)
           have HS9_ := (hb.cell (World.block_lt_of_cell? _ _ (hHeld.2.2.2.2.2.2.2.2.2.1))).trans (hHeld.2.2.2.2.2.2.2.2.2.1)
           have HS10_ := (hb.cell (World.block_lt_of_cell? _ _ (hHeld.2.2.2.2.2.2.2.2.2.2.1))).trans (hHeld.2.2.2.2.2.2.2.2.2.2.1)
           have HS11_ := (hb.cell (World.block_lt_of_cell? _ _ (hHeld.2.2.2.2.2.2.2.2.2.2.2.1))).trans (hHeld.2.2.2.2.2.2.2.2.2.2.2.1)
           have HS12_ := (hb.cell (World.block_lt_of_cell? _ _ (hHeld.2.2.2.2.2.2.2.2.2.2.2.2.1))).trans (hHeld.2.2.2.2.2.2.2.2.2.2.2.2.1)
           have HS13_ := (hb.cell (World.block_lt_of_cell? _ _ (hHeld.2.2.2.2.2.2.2.2.2.2.2.2.2.1))).trans (hHeld.2.2.2.2.2.2.2.2.2.2.2.2.2.1)
           have HS14_ := (hb.cell (World.block_lt_of_cell? _ _ (hHeld.2.2.2.2.2.2.2.2.2.2.2.2.2.2.1))).trans (hHeld.2.2.2.2.2.2.2.2.2.2.2.2.2.2.1)
           have HS15_ := (hb.cell (World.block_lt_of_cell? _ _ (hHeld.2.2.2.2.2.2.2.2.2.2.2.2.2.2.2.1))).trans (hHeld.2.2.2.2.2.2.2.2.2.2.2.2.2.2.2.1)
           have HS16_ := (hb.cell (World.block_lt_of_cell? _ _ (hHeld.2.2.2.2.2.2.2.2.2.2.2.2.2.2.2.2.1))).trans (hHeld.2.2.2.2.2.2.2.2.2.2.2.2.2.2.2.2.1)
           have HS17_ := (hb.cell (World.block_lt_of_cell? _ _ (hHeld.2.2.2.2.2.2.2.2.2.2.2.2.2.2.2.2.2.1))).trans (hHeld.2.2.2.2.2.2.2.2.2.2.2.2.2.2.2.2.2.1)
           have HS18_ := (hb.cell (World.block_lt_of_cell? _ _ (hHeld.2.2.2.2.2.2.2.2.2.2.2.2.2.2.2.2.2.2.1))).trans (hHeld.2.2.2.2.2.2.2.2.2.2.2.2.2.2.2.2.2.2.1)
           have HS19_ := (hb.cell (World.block_lt_of_cell? _ _ (hHeld.2.2.2.2.2.2.2.2.2.2.2.2.2.2.2.2.2.2.2.1))).trans (hHeld.2.2.2.2.2.2.2.2.2.2.2.2.2.2.2.2.2.2.2.1)
           have HS20_ := (hb.cell (World.block_lt_of_cell? _ _ (hHeld.2.2.2.2.2.2.2.2.2.2.2.2.2.2.2.2.2.2.2.2))).trans (hHeld.2.2.2.2.2.2.2.2.2.2.2.2.2.2.2.2.2.2.2.2)
           refine ⟨_, rfl, ?_⟩
           have n0_ := Aside0.mk (Kd.R_below (by (with_reducible repeat (first | apply Kd.R_alloc | apply Kd.R_drewN | apply Kd.R_drew)); exact HO_5.out) hb)
           have n1_ := Aside0.mk (below_step (by repeat (first | (with_reducible first | exact HB.out | apply below_alloc | apply pw_below_drewN | apply below_drew1) | exact HB.out)) hb)
           clear HO_5
           clear HB
           have HO_5 := n0_
           have HB := n1_
           clear n0_ n1_
           (try clear hb)
           (try clear hb2)
           (try clear hk)
           (try clear hi)
           refine hK.out _ _ ⟨HS0_, HS1_, HS2_, HS3_, HS4_, HS5_, HS6_, HS7_, HS8_, HS9_, HS10_, HS11_, HS12_, HS13_, HS14_, HS15_, HS16_, HS17_, HS18_, HS19_, HS20_⟩ (fun hHeld => ?_)
           clear hK K
           refine norm_ (a' := ?_) ?_ ?_
           rotate_left
           ·show Act.put _ (some 45) _ = _
            simp only [Act.put, List.setIfInBounds_toArray, List.set_cons_zero, List.set_cons_succ, i64_w, i32_w]
            rfl
           refine pure_ (i := 12) (N := some 51) (v := ?_) (a' := ?_) #[true, true, true, true, true, true, true, true, true, true, true, true, true, false, false, false, false, false, false, false, false, false, false, false] rfl rfl (any_of HT_.out (by kernel_rfl)) (fun _ _ _ h => h) (Or.inl ⟨by rfl, ?_⟩) ?_ ?_
           rotate_left
           ·intro w'
            go_simp
            with_reducible rfl
           rotate_left
           ·simp only [Act.put, List.setIfInBounds_toArray, List.set_cons_zero, List.set_cons_succ, i64_w, i32_w]
            rfl
           refine pure_ (i := 13) (N := some 52) (v := ?_) (a' := ?_) #[true, true, true, true, true, true, true, true, true, true, true, true, true, true, false, false, false, false, false, false, false, false, false, false] rfl rfl (any_of HT_.out (by kernel_rfl)) (fun _ _ _ h => h) (Or.inl ⟨by rfl, ?_⟩) ?_ ?_
           rotate_left
           ·intro w'
            go_simp
            with_reducible rfl
           rotate_left
           ·simp only [Act.put, List.setIfInBounds_toArray, List.set_cons_zero, List.set_cons_succ, i64_w, i32_w]
            rfl
           refine pure_ (i := 14) (N := some 53) (v := ?_) (a' := ?_) #[true, true, true, true, true, true, true, true, true, true, true, true, true, true, true, false, false, false, false, false, false, false, false, false] rfl rfl (any_of HT_.out (by kernel_rfl)) (fun _ _ _ h => h) (Or.inl ⟨by rfl, ?_⟩) ?_ ?_
           rotate_left
           ·intro w'
            go_simp
            with_reducible rfl
           rotate_left
           ·simp only [Act.put, List.setIfInBounds_toArray, List.set_cons_zero, List.set_cons_succ, i64_w, i32_w]
            rfl
           refine pure_ (i := 15) (N := some 54) (v := ?_) (a' := ?_) #[true, true, true, true, true, true, true, true, true, true, true, true, true, true, true, true, false, false, false, false, false, false, false, false] rfl rfl (any_of HT_.out (by kernel_rfl)) (fun _ _ _ h => h) (Or.inl ⟨by rfl, ?_⟩) ?_ ?_
           rotate_left
           ·intro w'
            go_simp
            with_reducible rfl
           rotate_left
           ·simp only [Act.put, List.setIfInBounds_toArray, List.set_cons_zero, List.set_cons_succ, i64_w, i32_w]
            rfl
           refine pure_ (i := 16) (N := some 55) (v := ?_) (a' := ?_) #[true, true, true, true, true, true, true, true, true, true, true, true, true, true, true, true, true, false, false, false, false, false, false, false] rfl rfl (any_of HT_.out (by kernel_rfl)) (fun _ _ _ h => h) (Or.inl ⟨by rfl, ?_⟩) ?_ ?_
           rotate_left
           ·intro w'
            go_simp
            with_reducible rfl
           rotate_left
           ·simp only [Act.put, List.setIfInBounds_toArray, List.set_cons_zero, List.set_cons_succ, i64_w, i32_w]
            rfl
           refine pure_ (i := 17) (N := some 56) (v := ?_) (a' := ?_) #[true, true, true, true, true, true, true, true, true, true, true, true, true, true, true, true, true, true, false, false, false, false, false, false] rfl rfl (any_of HT_.out (by kernel_rfl)) (fun _ _ _ h => h) (Or.inl ⟨by rfl, ?_⟩) ?_ ?_
           rotate_left
           ·intro w'
            go_simp
            with_reducible rfl
           rotate_left
           ·simp only [Act.put, List.setIfInBounds_toArray, List.set_cons_zero, List.set_cons_succ, i64_w, i32_w]
            rfl
           refine pure_ (i := 18) (N := some 57) (v := ?_) (a' := ?_) #[true, true, true, true, true, true, true, true, true, true, true, true, true, true, true, true, true, true, true, false, false, false, false, false] rfl rfl (any_of HT_.out (by kernel_rfl)) (fun _ _ _ h => h) (Or.inl ⟨by rfl, ?_⟩) ?_ ?_
           rotate_left
           ·intro w'
            go_simp
            with_reducible rfl
           rotate_left
           ·simp only [Act.put, List.setIfInBounds_toArray, List.set_cons_zero, List.set_cons_succ, i64_w, i32_w]
            rfl
           refine pure_ (i := 21) (N := some 60) (v := ?_) (a' := ?_) #[true, true, true, true, true, true, true, true, true, true, true, true, true, true, true, true, true, true, true, false, false, true, false, false] rfl rfl (any_of HT_.out (by kernel_rfl)) (fun _ _ _ h => h) (Or.inl ⟨by rfl, ?_⟩) ?_ ?_
           rotate_left
           ·intro w'
            go_simp
            with_reducible rfl
           rotate_left
           ·simp only [Act.put, List.setIfInBounds_toArray, List.set_cons_zero, List.set_cons_succ, i64_w, i32_w]
            rfl
           refine take_ (i := 19) (N := some 58) (v := ?_) (a' := ?_) #[true, true, true, true, true, true, true, true, true, true, true, true, true, true, true, true, true, true, true, true, false, true, false, false] rfl rfl (take_ofW HT_.out HW_.out (by kernel_rfl)) (fun _ _ _ h => h) (Or.inl ⟨by rfl, ?_⟩) hHeld ?_ ?_
           rotate_left
           ·rintro w' ⟨s0, s1, s2, s3, s4, s5, s6, s7, s8, s9, s10, s11, s12, s13, s14, s15, s16, s17, s18, s19, s20⟩
            go_simp
            with_reducible rfl
           rotate_left
           ·simp only [Act.put, List.setIfInBounds_toArray, List.set_cons_zero, List.set_cons_succ, i64_w, i32_w]
            rfl
           refine one_ (i := 20) (N := some 59) #[true, true, true, true, true, true, true, true, true, true, true, true, true, true, true, true, true, true, true, true, true, true, false, false] rfl rfl (one_of HT_.out (by kernel_rfl)) (by decide) (fun K hK => ?_)
           refine goes_ Try.func19 (by kernel_rfl) rfl #[.slice (some ad294) x5_1.length co5, .int .i64 ((rd_T34 x5_1 x36_2).f0)] (by rfl) rfl rfl (by (try simp only [List.map_toArray, List.map_cons, List.map_nil]); first | done | rfl | (simp only [List.length_drop, List.length_take]; rfl)) ?_
           with_reducible refine (key_Find.calls k2 _ _ x5_1 ((rd_T34 x5_1 x36_2).f0) t298 _ ?side1 ?side2 A21.out).mono ?_
           (case side1 => repeat (first | exact (Kd.R_reads' HO_5.out).2.2 | (with_reducible refine Kd.C_alloc ?_ _) | (with_reducible refine Kd.C_drewN ?_ _) | (with_reducible refine Kd.C_drew ?_)))
           (case side2 => exact (Kd.R_reads' HO_5.out).2.1)
           rintro e w' ⟨rfl, ⟨nd, rfl⟩⟩
           refine ⟨_, rfl, ?_⟩
           refine hK.out _ _ ⟨hHeld.1, hHeld.2.1, hHeld.2.2.1, hHeld.2.2.2.1, hHeld.2.2.2.2.1, hHeld.2.2.2.2.2.1, hHeld.2.2.2.2.2.2.1, hHeld.2.2.2.2.2.2.2.1, hHeld.2.2.2.2.2.2.2.2.1, hHeld.2.2.2.2.2.2.2.2.2.1, hHeld.2.2.2.2.2.2.2.2.2.2.1, hHeld.2.2.2.2.2.2.2.2.2.2.2.1, hHeld.2.2.2.2.2.2.2.2.2.2.2.2.1, hHeld.2.2.2.2.2.2.2.2.2.2.2.2.2.1, hHeld.2.2.2.2.2.2.2.2.2.2.2.2.2.2.1, hHeld.2.2.2.2.2.2.2.2.2.2.2.2.2.2.2.1, hHeld.2.2.2.2.2.2.2.2.2.2.2.2.2.2.2.2.1, hHeld.2.2.2.2.2.2.2.2.2.2.2.2.2.2.2.2.2.1, hHeld.2.2.2.2.2.2.2.2.2.2.2.2.2.2.2.2.2.2.1, hHeld.2.2.2.2.2.2.2.2.2.2.2.2.2.2.2.2.2.2.2.1, hHeld.2.2.2.2.2.2.2.2.2.2.2.2.2.2.2.2.2.2.2.2⟩ (fun hHeld => ?_)
           clear hK K
           refine norm_ (a' := ?_) ?_ ?_
           rotate_left
           ·show Act.put _ (some 59) _ = _
            simp only [Act.put, List.setIfInBounds_toArray, List.set_cons_zero, List.set_cons_succ, i64_w, i32_w]
            rfl
           refine pure_ (i := 22) (N := some 61) (v := ?_) (a' := ?_) #[true, true, true, true, true, true, true, true, true, true, true, true, true, true, true, true, true, true, true, true, true, true, true, false] rfl rfl (any_of HT_.out (by kernel_rfl)) (fun _ _ _ h => h) (Or.inl ⟨by rfl, ?_⟩) ?_ ?_
           rotate_left
           ·intro w'
            go_simp
            with_reducible rfl
           rotate_left
           ·simp only [Act.put, List.setIfInBounds_toArray, List.set_cons_zero, List.set_cons_succ, i64_w, i32_w]
            rfl
           refine pure_ (i := 23) (N := some 62) (v := ?_) (a' := ?_) #[true, true, true, true, true, true, true, true, true, true, true, true, true, true, true, true, true, true, true, true, true, true, true, true] rfl rfl (any_of HT_.out (by kernel_rfl)) (fun _ _ _ h => h) (Or.inl ⟨by rfl, ?_⟩) ?_ ?_
           rotate_left
           ·intro w'
            go_simp
            with_reducible rfl
           rotate_left
           ·simp only [Act.put, List.setIfInBounds_toArray, List.set_cons_zero, List.set_cons_succ, i64_w, i32_w]
            rfl
           refine done_ (done_of HT_.out (by kernel_rfl)) ?_
           try go_wp2
           go_roundg k2
           case measure => have := HK1.out; have := HK2.out; omega
           case rel => exact ⟨(wrap64 (x36_2 + 1)), (by first | rfl | (simp; done) | (simp [*]; done)), H', ⟨by have := HK1.out; have := HK2.out; omega⟩, ⟨by (try simp only [hl5_1]); (with_reducible repeat (first | apply Kd.R_alloc | apply Kd.R_drewN | apply Kd.R_drew)); exact HO_5.out⟩, ⟨by repeat (first | (with_reducible first | exact HB.out | apply below_alloc | apply pw_below_drewN | apply below_drew1) | exact HB.out)⟩⟩
          ·rw [if_neg c22] at H
           exact absurd H (by simp)
         ·rw [if_neg c20] at H
          have c20b0 : (t295 == ((rd_T34 x5_1 x36_2).f1)) = false := beq_eq_false_iff_ne.mpr c20
          have c20b1 : (t295 != ((rd_T34 x5_1 x36_2).f1)) = true := bne_iff_ne.mpr c20
          exact absurd H (by simp)
        ·rw [if_neg c18] at H
         exact absurd H (by simp)
       ·rw [if_neg c17] at H
        exact absurd H (by simp)
      ·rw [if_neg c16] at H
       have c16b0 : decide (x36_2 < (x5_1.length : Int)) = false := decide_eq_false c16
       clear c16
       by_cases c25 : (x5_1.length : Int) = 0
       ·rw [if_pos c25] at H
        have c25b0 : ((x5_1.length : Int) == 0) = true := beq_iff_eq.mpr c25
        have c25b1 : ((x5_1.length : Int) != 0) = false := bne_eq_false_iff_eq.mpr c25
        clear c25
        replace H := Option.bind_eq_some_iff.mp H
        obtain ⟨t299, A260, H⟩ := H
        replace H : (if t299 = a1 then ((mutoscopelaw5_known.f k2).bind fun t300 => (some t300)) else (none)) = some r := H
        have A26 := Aside0.mk A260
        clear A260
        by_cases c27 : t299 = a1
        ·rw [if_pos c27] at H
         have c27b0 : (t299 == a1) = true := beq_iff_eq.mpr c27
         have c27b1 : (t299 != a1) = false := bne_eq_false_iff_eq.mpr c27
         clear c27
         replace H := Option.bind_eq_some_iff.mp H
         obtain ⟨t300, A280, H⟩ := H
         replace H : (some t300) = some r := H
         have A28 := Aside0.mk A280
         clear A280
         obtain rfl := Option.some.inj H
         go_wp2_with (first | ((with_reducible refine gate_callee (f := 18) rfl ?_); refine goesL_ (some 70) rfl rfl Try.func18 (by kernel_rfl) rfl #[.slice Ao5 x5_1.length co5, .int .i64 a1, .int .i64 a1] rfl (by (try simp only [List.map_toArray, List.map_cons, List.map_nil]); first | done | rfl | (simp only [List.length_drop, List.length_take]; rfl)) ?_; (with_reducible refine (key_At.calls k2 _ _ x5_1 a1 a1 t299 _ ?side1 ?side2 A26.out).mono ?_); (case side1 => repeat (first | exact (Kd.R_reads' HO_5.out).2.2 | (with_reducible refine Kd.C_alloc ?_ _) | (with_reducible refine Kd.C_drewN ?_ _) | (with_reducible refine Kd.C_drew ?_))); (case side2 => exact (Kd.R_reads' HO_5.out).2.1); rintro e w29 ⟨rfl, hb⟩; refine ⟨_, rfl, ?_⟩; have n0_ := Aside0.mk (Kd.R_below (by (with_reducible repeat (first | apply Kd.R_alloc | apply Kd.R_drewN | apply Kd.R_drew)); exact HO_5.out) hb); have n1_ := Aside0.mk (below_step (by repeat (first | (with_reducible first | exact HB.out | apply below_alloc | apply pw_below_drewN | apply below_drew1) | exact HB.out)) hb); clear HO_5; clear HB; have HO_5 := n0_; have HB := n1_; clear n0_ n1_; (try clear hb); (try clear hb2); (try clear hk); (try clear hi)) | (go_at_call 20; (with_reducible refine (mutoscopelaw5_known.calls k2  t300 _ A28.out).mono ?_); rintro e w30 ⟨rfl, hb⟩; have n0_ := Aside0.mk (Kd.R_below (by (with_reducible repeat (first | apply Kd.R_alloc | apply Kd.R_drewN | apply Kd.R_drew)); exact HO_5.out) hb); have n1_ := Aside0.mk (below_step (by repeat (first | (with_reducible first | exact HB.out | apply below_alloc | apply pw_below_drewN | apply below_drew1) | exact HB.out)) hb); clear HO_5; clear HB; have HO_5 := n0_; have HB := n1_; clear n0_ n1_; (try clear hb); (try clear hb2); (try clear hk); (try clear hi)))
         go_ret
         exact ⟨by first | rfl | (simp [errW_none, errW_some] <;> rfl) | (simp [*, errW_none, errW_some] <;> rfl), by repeat (first | (with_reducible first | exact HB.out | apply below_alloc | apply pw_below_drewN | apply below_drew1) | exact HB.out)⟩
        ·rw [if_neg c27] at H
         exact absurd H (by simp)
       ·rw [if_neg c25] at H
        have c25b0 : ((x5_1.length : Int) == 0) = false := beq_eq_false_iff_ne.mpr c25
        have c25b1 : ((x5_1.length : Int) != 0) = true := bne_iff_ne.mpr c25
        have c25b2 : ¬ (x5_1 = []) := fun h_ => c25 (by rw [h_]; rfl)
        replace H := Option.bind_eq_some_iff.mp H
        obtain ⟨t301, A310, H⟩ := H
        replace H : ((key_At.f k2 x5_1 (Go.bits .and .i64 a1 255) 0).bind fun t302 => (if t301 < 0 then (if 0 < (x5_1.length : Int) then (if t302 = ((rd_T34 x5_1 0).f1) then ((mutoscopelaw5_known.f k2).bind fun t304 => (some t304)) else (none)) else (none)) else (if t301 = (wrap64 ((x5_1.length : Int) - 1)) then (if 0 ≤ t301 then (if t301 < (x5_1.length : Int) then (if t302 = ((rd_T34 x5_1 t301).f1) then ((mutoscopelaw5_known.f k2).bind fun t306 => (some t306)) else (none)) else (none)) else (none)) else (if 0 ≤ t301 then (if t301 < (x5_1.length : Int) then (if 0 ≤ (wrap64 (t301 + 1)) then (if (wrap64 (t301 + 1)) < (x5_1.length : Int) then (if t302 ≥ (mn ((rd_T34 x5_1 t301).f1) ((rd_T34 x5_1 (wrap64 (t301 + 1))).f1)) then (if t302 ≤ (mx ((rd_T34 x5_1 t301).f1) ((rd_T34 x5_1 (wrap64 (t301 + 1))).f1)) then ((mutoscopelaw5_known.f k2).bind fun t311 => (some t311)) else (none)) else (none)) else (none)) else (none)) else (none)) else (none))))) = some r := H
        have A31 := Aside0.mk A310
        clear A310
        replace H := Option.bind_eq_some_iff.mp H
        obtain ⟨t302, A320, H⟩ := H
        replace H : (if t301 < 0 then (if 0 < (x5_1.length : Int) then (if t302 = ((rd_T34 x5_1 0).f1) then ((mutoscopelaw5_known.f k2).bind fun t304 => (some t304)) else (none)) else (none)) else (if t301 = (wrap64 ((x5_1.length : Int) - 1)) then (if 0 ≤ t301 then (if t301 < (x5_1.length : Int) then (if t302 = ((rd_T34 x5_1 t301).f1) then ((mutoscopelaw5_known.f k2).bind fun t306 => (some t306)) else (none)) else (none)) else (none)) else (if 0 ≤ t301 then (if t301 < (x5_1.length : Int) then (if 0 ≤ (wrap64 (t301 + 1)) then (if (wrap64 (t301 + 1)) < (x5_1.length : Int) then (if t302 ≥ (mn ((rd_T34 x5_1 t301).f1) ((rd_T34 x5_1 (wrap64 (t301 + 1))).f1)) then (if t302 ≤ (mx ((rd_T34 x5_1 t301).f1) ((rd_T34 x5_1 (wrap64 (t301 + 1))).f1)) then ((mutoscopelaw5_known.f k2).bind fun t311 => (some t311)) else (none)) else (none)) else (none)) else (none)) else (none)) else (none)))) = some r := H
        have A32 := Aside0.mk A320
        clear A320
        by_cases c33 : t301 < 0
        ·rw [if_pos c33] at H
         have c33b0 : decide (t301 < 0) = true := decide_eq_true c33
         clear c33
         by_cases c34 : 0 < (x5_1.length : Int)
         ·rw [if_pos c34] at H
          have c34b0 : decide (0 < (x5_1.length : Int)) = true := decide_eq_true c34
          have c34b1 : decide (0 < x5_1.length) = true := decide_eq_true (by omega)
          clear c34
          by_cases c35 : t302 = ((rd_T34 x5_1 0).f1)
          ·rw [if_pos c35] at H
           have c35b0 : (t302 == ((rd_T34 x5_1 0).f1)) = true := beq_iff_eq.mpr c35
           have c35b1 : (t302 != ((rd_T34 x5_1 0).f1)) = false := bne_eq_false_iff_eq.mpr c35
           clear c35
           replace H := Option.bind_eq_some_iff.mp H
           obtain ⟨t304, A360, H⟩ := H
           replace H : (some t304) = some r := H
           have A36 := Aside0.mk A360
           clear A360
           obtain rfl := Option.some.inj H
           go_wp2_with (first | ((with_reducible refine gate_callee (f := 19) rfl ?_); refine goesL_ (some 80) rfl rfl Try.func19 (by kernel_rfl) rfl #[.slice Ao5 x5_1.length co5, .int .i64 (Go.bits .and .i64 a1 255)] rfl (by (try simp only [List.map_toArray, List.map_cons, List.map_nil]); first | done | rfl | (simp only [List.length_drop, List.length_take]; rfl)) ?_; (with_reducible refine (key_Find.calls k2 _ _ x5_1 (Go.bits .and .i64 a1 255) t301 _ ?side1 ?side2 A31.out).mono ?_); (case side1 => repeat (first | exact (Kd.R_reads' HO_5.out).2.2 | (with_reducible refine Kd.C_alloc ?_ _) | (with_reducible refine Kd.C_drewN ?_ _) | (with_reducible refine Kd.C_drew ?_))); (case side2 => exact (Kd.R_reads' HO_5.out).2.1); rintro e w' ⟨rfl, ⟨nd, rfl⟩⟩; refine ⟨_, rfl, ?_⟩) | ((with_reducible refine gate_callee (f := 18) rfl ?_); refine goesL_ (some 83) rfl rfl Try.func18 (by kernel_rfl) rfl #[.slice Ao5 x5_1.length co5, .int .i64 (Go.bits .and .i64 a1 255), .int .i64 0] rfl (by (try simp only [List.map_toArray, List.map_cons, List.map_nil]); first | done | rfl | (simp only [List.length_drop, List.length_take]; rfl)) ?_; (with_reducible refine (key_At.calls k2 _ _ x5_1 (Go.bits .and .i64 a1 255) 0 t302 _ ?side1 ?side2 A32.out).mono ?_); (case side1 => repeat (first | exact (Kd.R_reads' HO_5.out).2.2 | (with_reducible refine Kd.C_alloc ?_ _) | (with_reducible refine Kd.C_drewN ?_ _) | (with_reducible refine Kd.C_drew ?_))); (case side2 => exact (Kd.R_reads' HO_5.out).2.1); rintro e w37 ⟨rfl, hb⟩; refine ⟨_, rfl, ?_⟩; have n0_ := Aside0.mk (Kd.R_below (by (with_reducible repeat (first | apply Kd.R_alloc | apply Kd.R_drewN | apply Kd.R_drew)); exact HO_5.out) hb); have n1_ := Aside0.mk (below_step (by repeat (first | (with_reducible first | exact HB.out | apply below_alloc | apply pw_below_drewN | apply below_drew1) | exact HB.out)) hb); clear HO_5; clear HB; have HO_5 := n0_; have HB := n1_; clear n0_ n1_; (try clear hb); (try clear hb2); (try clear hk); (try clear hi); have p303 : 0 ≤ (0 : Int) := (by omega); have q303 : 0 < (x5_1.length : Int) := of_decide_eq_true (by first | (with_reducible assumption) | assumption); obtain ⟨ad303, e303, hx303_0, hx303_1, hx303_2, hx303_3, hx303_4, hx303_5, hx303_6⟩ := at_T34 (Kd.R_reads' HO_5.out).2.2 0 p303 q303; cases e303; have qi303 : (0 < x5_1.length) = True := eq_true (by omega); (try rw [show ((0 : Int)).toNat = 0 from rfl] at hx303_0); (try rw [show 0 * 7 = 0 from rfl] at hx303_0); (try rw [Addr.add_zero'] at hx303_0); (try rw [show ((0 : Int)).toNat = 0 from rfl] at hx303_1); (try rw [show 0 * 7 = 0 from rfl] at hx303_1); (try rw [Addr.add_zero'] at hx303_1); (try rw [show ((0 : Int)).toNat = 0 from rfl] at hx303_2); (try rw [show 0 * 7 = 0 from rfl] at hx303_2); (try rw [Addr.add_zero'] at hx303_2); (try rw [show ((0 : Int)).toNat = 0 from rfl] at hx303_3); (try rw [show 0 * 7 = 0 from rfl] at hx303_3); (try rw [Addr.add_zero'] at hx303_3); (try rw [show ((0 : Int)).toNat = 0 from rfl] at hx303_4); (try rw [show 0 * 7 = 0 from rfl] at hx303_4); (try rw [Addr.add_zero'] at hx303_4); (try rw [show ((0 : Int)).toNat = 0 from rfl] at hx303_5); (try rw [show 0 * 7 = 0 from rfl] at hx303_5); (try rw [Addr.add_zero'] at hx303_5); (try rw [show ((0 : Int)).toNat = 0 from rfl] at hx303_6); (try rw [show 0 * 7 = 0 from rfl] at hx303_6); (try rw [Addr.add_zero'] at hx303_6); replace p303 := eq_true p303; replace q303 := eq_true q303) | (go_at_call 20; (with_reducible refine (mutoscopelaw5_known.calls k2  t304 _ A36.out).mono ?_); rintro e w38 ⟨rfl, hb⟩; have n0_ := Aside0.mk (Kd.R_below (by (with_reducible repeat (first | apply Kd.R_alloc | apply Kd.R_drewN | apply Kd.R_drew)); exact HO_5.out) hb); have n1_ := Aside0.mk (below_step (by repeat (first | (with_reducible first | exact HB.out | apply below_alloc | apply pw_below_drewN | apply below_drew1) | exact HB.out)) hb); clear HO_5; clear HB; have HO_5 := n0_; have HB := n1_; clear n0_ n1_; (try clear hb); (try clear hb2); (try clear hk); (try clear hi)))
           go_ret
           exact ⟨by first | rfl | (simp [errW_none, errW_some] <;> rfl) | (simp [*, errW_none, errW_some] <;> rfl), by repeat (first | (with_reducible first | exact HB.out | apply below_alloc | apply pw_below_drewN | apply below_drew1) | exact HB.out)⟩
          ·rw [if_neg c35] at H
           exact absurd H (by simp)
         ·rw [if_neg c34] at H
          exact absurd H (by simp)
        ·rw [if_neg c33] at H
         have c33b0 : decide (t301 < 0) = false := decide_eq_false c33
         clear c33
         by_cases c39 : t301 = (wrap64 ((x5_1.length : Int) - 1))
         ·rw [if_pos c39] at H
          have c39b0 : (t301 == (wrap64 ((x5_1.length : Int) - 1))) = true := beq_iff_eq.mpr c39
          have c39b1 : (t301 != (wrap64 ((x5_1.length : Int) - 1))) = false := bne_eq_false_iff_eq.mpr c39
          clear c39
          by_cases c40 : 0 ≤ t301
          ·rw [if_pos c40] at H
           have c40b0 : decide (0 ≤ t301) = true := decide_eq_true c40
           clear c40
           by_cases c41 : t301 < (x5_1.length : Int)
           ·rw [if_pos c41] at H
            have c41b0 : decide (t301 < (x5_1.length : Int)) = true := decide_eq_true c41
            clear c41
            by_cases c42 : t302 = ((rd_T34 x5_1 t301).f1)
            ·rw [if_pos c42] at H
             have c42b0 : (t302 == ((rd_T34 x5_1 t301).f1)) = true := beq_iff_eq.mpr c42
             have c42b1 : (t302 != ((rd_T34 x5_1 t301).f1)) = false := bne_eq_false_iff_eq.mpr c42
             clear c42
             replace H := Option.bind_eq_some_iff.mp H
             obtain ⟨t306, A430, H⟩ := H
             replace H : (some t306) = some r := H
             have A43 := Aside0.mk A430
             clear A430
             obtain rfl := Option.some.inj H
             go_wp2_with (first | ((with_reducible refine gate_callee (f := 19) rfl ?_); refine goesL_ (some 80) rfl rfl Try.func19 (by kernel_rfl) rfl #[.slice Ao5 x5_1.length co5, .int .i64 (Go.bits .and .i64 a1 255)] rfl (by (try simp only [List.map_toArray, List.map_cons, List.map_nil]); first | done | rfl | (simp only [List.length_drop, List.length_take]; rfl)) ?_; (with_reducible refine (key_Find.calls k2 _ _ x5_1 (Go.bits .and .i64 a1 255) t301 _ ?side1 ?side2 A31.out).mono ?_); (case side1 => repeat (first | exact (Kd.R_reads' HO_5.out).2.2 | (with_reducible refine Kd.C_alloc ?_ _) | (with_reducible refine Kd.C_drewN ?_ _) | (with_reducible refine Kd.C_drew ?_))); (case side2 => exact (Kd.R_reads' HO_5.out).2.1); rintro e w' ⟨rfl, ⟨nd, rfl⟩⟩; refine ⟨_, rfl, ?_⟩) | ((with_reducible refine gate_callee (f := 18) rfl ?_); refine goesL_ (some 83) rfl rfl Try.func18 (by kernel_rfl) rfl #[.slice Ao5 x5_1.length co5, .int .i64 (Go.bits .and .i64 a1 255), .int .i64 0] rfl (by (try simp only [List.map_toArray, List.map_cons, List.map_nil]); first | done | rfl | (simp only [List.length_drop, List.length_take]; rfl)) ?_; (with_reducible refine (key_At.calls k2 _ _ x5_1 (Go.bits .and .i64 a1 255) 0 t302 _ ?side1 ?side2 A32.out).mono ?_); (case side1 => repeat (first | exact (Kd.R_reads' HO_5.out).2.2 | (with_reducible refine Kd.C_alloc ?_ _) | (with_reducible refine Kd.C_drewN ?_ _) | (with_reducible refine Kd.C_drew ?_))); (case side2 => exact (Kd.R_reads' HO_5.out).2.1); rintro e w44 ⟨rfl, hb⟩; refine ⟨_, rfl, ?_⟩; have n0_ := Aside0.mk (Kd.R_below (by (with_reducible repeat (first | apply Kd.R_alloc | apply Kd.R_drewN | apply Kd.R_drew)); exact HO_5.out) hb); have n1_ := Aside0.mk (below_step (by repeat (first | (with_reducible first | exact HB.out | apply below_alloc | apply pw_below_drewN | apply below_drew1) | exact HB.out)) hb); clear HO_5; clear HB; have HO_5 := n0_; have HB := n1_; clear n0_ n1_; (try clear hb); (try clear hb2); (try clear hk); (try clear hi); have p305 : 0 ≤ (t301 : Int) := of_decide_eq_true (by first | (with_reducible assumption) | assumption); have q305 : t301 < (x5_1.length : Int) := of_decide_eq_true (by first | (with_reducible assumption) | assumption); obtain ⟨ad305, e305, hx305_0, hx305_1, hx305_2, hx305_3, hx305_4, hx305_5, hx305_6⟩ := at_T34 (Kd.R_reads' HO_5.out).2.2 t301 p305 q305; cases e305; replace p305 := eq_true p305; replace q305 := eq_true q305) | (go_at_call 20; (with_reducible refine (mutoscopelaw5_known.calls k2  t306 _ A43.out).mono ?_); rintro e w45 ⟨rfl, hb⟩; have n0_ := Aside0.mk (Kd.R_below (by (with_reducible repeat (first | apply Kd.R_alloc | apply Kd.R_drewN | apply Kd.R_drew)); exact HO_5.out) hb); have n1_ := Aside0.mk (below_step (by repeat (first | (with_reducible first | exact HB.out | apply below_alloc | apply pw_below_drewN | apply below_drew1) | exact HB.out)) hb); clear HO_5; clear HB; have HO_5 := n0_; have HB := n1_; clear n0_ n1_; (try clear hb); (try clear hb2); (try clear hk); (try clear hi)))
             go_ret
             exact ⟨by first | rfl | (simp [errW_none, errW_some] <;> rfl) | (simp [*, errW_none, errW_some] <;> rfl), by repeat (first | (with_reducible first | exact HB.out | apply below_alloc | apply pw_below_drewN | apply below_drew1) | exact HB.out)⟩
            ·rw [if_neg c42] at H
             exact absurd H (by simp)
           ·rw [if_neg c41] at H
            exact absurd H (by simp)
          ·rw [if_neg c40] at H
           exact absurd H (by simp)
         ·rw [if_neg c39] at H
          have c39b0 : (t301 == (wrap64 ((x5_1.length : Int) - 1))) = false := beq_eq_false_iff_ne.mpr c39
          have c39b1 : (t301 != (wrap64 ((x5_1.length : Int) - 1))) = true := bne_iff_ne.mpr c39
          by_cases c46 : 0 ≤ t301
          ·rw [if_pos c46] at H
           have c46b0 : decide (0 ≤ t301) = true := decide_eq_true c46
           clear c46
           by_cases c47 : t301 < (x5_1.length : Int)
           ·rw [if_pos c47] at H
            have c47b0 : decide (t301 < (x5_1.length : Int)) = true := decide_eq_true c47
            clear c47
            obtain ⟨ji48, hji48⟩ : ∃ j_ : Int, (wrap64 (t301 + 1)) = j_ := ⟨_, rfl⟩
            replace H : (if 0 ≤ (ji48) then (if (ji48) < (x5_1.length : Int) then (if t302 ≥ (mn ((rd_T34 x5_1 t301).f1) ((rd_T34 x5_1 (ji48)).f1)) then (if t302 ≤ (mx ((rd_T34 x5_1 t301).f1) ((rd_T34 x5_1 (ji48)).f1)) then ((mutoscopelaw5_known.f k2).bind fun t311 => (some t311)) else (none)) else (none)) else (none)) else (none)) = some r := by first | (rw [hji48] at H; exact H) | (simp only [hji48] at H ⊢; exact H)
            (try rw [hji48] at A31)
            (try rw [hji48] at A32)
            have hji48w : (IntKind.i64.wrap (t301 + 1)) = ji48 := (i64_w _).trans hji48
            by_cases c49 : 0 ≤ (ji48)
            ·rw [if_pos c49] at H
             have c49b0 : decide (0 ≤ (ji48)) = true := decide_eq_true c49
             clear c49
             by_cases c50 : (ji48) < (x5_1.length : Int)
             ·rw [if_pos c50] at H
              have c50b0 : decide ((ji48) < (x5_1.length : Int)) = true := decide_eq_true c50
              clear c50
              obtain ⟨ji51, hji51⟩ : ∃ j_ : Int, (mn ((rd_T34 x5_1 t301).f1) ((rd_T34 x5_1 (ji48)).f1)) = j_ := ⟨_, rfl⟩
              replace H : (if t302 ≥ (ji51) then (if t302 ≤ (mx ((rd_T34 x5_1 t301).f1) ((rd_T34 x5_1 (ji48)).f1)) then ((mutoscopelaw5_known.f k2).bind fun t311 => (some t311)) else (none)) else (none)) = some r := by first | (rw [hji51] at H; exact H) | (simp only [hji51] at H ⊢; exact H)
              (try rw [hji51] at A31)
              (try rw [hji51] at A32)
              have hji51_ : (if ((rd_T34 x5_1 (ji48)).f1) < ((rd_T34 x5_1 t301).f1) then ((rd_T34 x5_1 (ji48)).f1) else ((rd_T34 x5_1 t301).f1)) = ji51 := hji51
              by_cases c52 : t302 ≥ (ji51)
              ·rw [if_pos c52] at H
               have c52b0 : decide ((ji51) ≤ t302) = true := decide_eq_true c52
               clear c52
               obtain ⟨ji53, hji53⟩ : ∃ j_ : Int, (mx ((rd_T34 x5_1 t301).f1) ((rd_T34 x5_1 (ji48)).f1)) = j_ := ⟨_, rfl⟩
               replace H : (if t302 ≤ (ji53) then ((mutoscopelaw5_known.f k2).bind fun t311 => (some t311)) else (none)) = some r := by first | (rw [hji53] at H; exact H) | (simp only [hji53] at H ⊢; exact H)
               (try rw [hji53] at A31)
               (try rw [hji53] at A32)
               have hji53_ : (if ((rd_T34 x5_1 t301).f1) < ((rd_T34 x5_1 (ji48)).f1) then ((rd_T34 x5_1 (ji48)).f1) else ((rd_T34 x5_1 t301).f1)) = ji53 := hji53
               by_cases c54 : t302 ≤ (ji53)
               ·rw [if_pos c54] at H
                have c54b0 : decide (t302 ≤ (ji53)) = true := decide_eq_true c54
                clear c54
                replace H := Option.bind_eq_some_iff.mp H
                obtain ⟨t311, A550, H⟩ := H
                replace H : (some t311) = some r := H
                have A55 := Aside0.mk A550
                clear A550
                obtain rfl := Option.some.inj H
                try go_wp2_with (first | ((with_reducible refine gate_callee (f := 19) rfl ?_); refine goesL_ (some 80) rfl rfl Try.func19 (by kernel_rfl) rfl #[.slice Ao5 x5_1.length co5, .int .i64 (Go.bits .and .i64 a1 255)] rfl (by (try simp only [List.map_toArray, List.map_cons, List.map_nil]); first | done | rfl | (simp only [List.length_drop, List.length_take]; rfl)) ?_; (with_reducible refine (key_Find.calls k2 _ _ x5_1 (Go.bits .and .i64 a1 255) t301 _ ?side1 ?side2 A31.out).mono ?_); (case side1 => repeat (first | exact (Kd.R_reads' HO_5.out).2.2 | (with_reducible refine Kd.C_alloc ?_ _) | (with_reducible refine Kd.C_drewN ?_ _) | (with_reducible refine Kd.C_drew ?_))); (case side2 => exact (Kd.R_reads' HO_5.out).2.1); rintro e w' ⟨rfl, ⟨nd, rfl⟩⟩; refine ⟨_, rfl, ?_⟩) | ((with_reducible refine gate_callee (f := 18) rfl ?_); refine goesL_ (some 83) rfl rfl Try.func18 (by kernel_rfl) rfl #[.slice Ao5 x5_1.length co5, .int .i64 (Go.bits .and .i64 a1 255), .int .i64 0] rfl (by (try simp only [List.map_toArray, List.map_cons, List.map_nil]); first | done | rfl | (simp only [List.length_drop, List.length_take]; rfl)) ?_; (with_reducible refine (key_At.calls k2 _ _ x5_1 (Go.bits .and .i64 a1 255) 0 t302 _ ?side1 ?side2 A32.out).mono ?_); (case side1 => repeat (first | exact (Kd.R_reads' HO_5.out).2.2 | (with_reducible refine Kd.C_alloc ?_ _) | (with_reducible refine Kd.C_drewN ?_ _) | (with_reducible refine Kd.C_drew ?_))); (case side2 => exact (Kd.R_reads' HO_5.out).2.1); rintro e w56 ⟨rfl, hb⟩; refine ⟨_, rfl, ?_⟩; have n0_ := Aside0.mk (Kd.R_below (by (with_reducible repeat (first | apply Kd.R_alloc | apply Kd.R_drewN | apply Kd.R_drew)); exact HO_5.out) hb); have n1_ := Aside0.mk (below_step (by repeat (first | (with_reducible first | exact HB.out | apply below_alloc | apply pw_below_drewN | apply below_drew1) | exact HB.out)) hb); clear HO_5; clear HB; have HO_5 := n0_; have HB := n1_; clear n0_ n1_; (try clear hb); (try clear hb2); (try clear hk); (try clear hi)))
                have n0_ := Aside0.mk (Kd.R_drew HO_5.out)
                have n1_ := Aside0.mk (below_drew1 HB.out)
                clear HO_5
                clear HB
                have HO_5 := n0_
                have HB := n1_
                clear n0_ n1_
                have p307 : 0 ≤ (t301 : Int) := of_decide_eq_true (by first | (with_reducible assumption) | assumption)
                have q307 : t301 < (x5_1.length : Int) := of_decide_eq_true (by first | (with_reducible assumption) | assumption)
                obtain ⟨ad307, e307, hx307_0, hx307_1, hx307_2, hx307_3, hx307_4, hx307_5, hx307_6⟩ := at_T34 (Kd.R_reads' HO_5.out).2.2 t301 p307 q307
                cases e307
                replace p307 := eq_true p307
                replace q307 := eq_true q307
                have p308 : 0 ≤ ((ji48) : Int) := of_decide_eq_true (by first | (with_reducible assumption) | assumption)
                have q308 : (ji48) < (x5_1.length : Int) := of_decide_eq_true (by first | (with_reducible assumption) | assumption)
                obtain ⟨ad308, e308, hx308_0, hx308_1, hx308_2, hx308_3, hx308_4, hx308_5, hx308_6⟩ := at_T34 (Kd.R_reads' HO_5.out).2.2 (ji48) p308 q308
                obtain rfl : ad307 = ad308 := (by injection e308)
                replace p308 := eq_true p308
                replace q308 := eq_true q308
                have p309 : 0 ≤ (t301 : Int) := of_decide_eq_true (by first | (with_reducible assumption) | assumption)
                have q309 : t301 < (x5_1.length : Int) := of_decide_eq_true (by first | (with_reducible assumption) | assumption)
                obtain ⟨ad309, e309, hx309_0, hx309_1, hx309_2, hx309_3, hx309_4, hx309_5, hx309_6⟩ := at_T34 (Kd.R_reads' HO_5.out).2.2 t301 p309 q309
                obtain rfl : ad307 = ad309 := (by injection e309)
                replace p309 := eq_true p309
                replace q309 := eq_true q309
                have p310 : 0 ≤ ((ji48) : Int) := of_decide_eq_true (by first | (with_reducible assumption) | assumption)
                have q310 : (ji48) < (x5_1.length : Int) := of_decide_eq_true (by first | (with_reducible assumption) | assumption)
                obtain ⟨ad310, e310, hx310_0, hx310_1, hx310_2, hx310_3, hx310_4, hx310_5, hx310_6⟩ := at_T34 (Kd.R_reads' HO_5.out).2.2 (ji48) p310 q310
                obtain rfl : ad307 = ad310 := (by injection e310)
                replace p310 := eq_true p310
                replace q310 := eq_true q310
                refine start_ (n := 34) (S := fun w' => w'.cell? (ad307.add ((t301).toNat * 7)) = some (.int .i64 ((rd_T34 x5_1 t301).f0)) ∧ w'.cell? ⟨(ad307.add ((t301).toNat * 7)).block, (ad307.add ((t301).toNat * 7)).off + 1, none⟩ = some (.int .i64 ((rd_T34 x5_1 t301).f1)) ∧ w'.cell? ⟨(ad307.add ((t301).toNat * 7)).block, (ad307.add ((t301).toNat * 7)).off + 2, none⟩ = some (.int .i64 ((rd_T34 x5_1 t301).f2)) ∧ w'.cell? ⟨(ad307.add ((t301).toNat * 7)).block, (ad307.add ((t301).toNat * 7)).off + 3, none⟩ = some (.int .i64 ((rd_T34 x5_1 t301).f3.f0)) ∧ w'.cell? ⟨(ad307.add ((t301).toNat * 7)).block, (ad307.add ((t301).toNat * 7)).off + 4, none⟩ = some (.int .i64 ((rd_T34 x5_1 t301).f3.f1)) ∧ w'.cell? ⟨(ad307.add ((t301).toNat * 7)).block, (ad307.add ((t301).toNat * 7)).off + 5, none⟩ = some (.int .i64 ((rd_T34 x5_1 t301).f3.f2)) ∧ w'.cell? ⟨(ad307.add ((t301).toNat * 7)).block, (ad307.add ((t301).toNat * 7)).off + 6, none⟩ = some (.int .i64 ((rd_T34 x5_1 t301).f3.f3)) ∧ w'.cell? (ad307.add (((ji48)).toNat * 7)) = some (.int .i64 ((rd_T34 x5_1 (ji48)).f0)) ∧ w'.cell? ⟨(ad307.add (((ji48)).toNat * 7)).block, (ad307.add (((ji48)).toNat * 7)).off + 1, none⟩ = some (.int .i64 ((rd_T34 x5_1 (ji48)).f1)) ∧ w'.cell? ⟨(ad307.add (((ji48)).toNat * 7)).block, (ad307.add (((ji48)).toNat * 7)).off + 2, none⟩ = some (.int .i64 ((rd_T34 x5_1 (ji48)).f2)) ∧ w'.cell? ⟨(ad307.add (((ji48)).toNat * 7)).block, (ad307.add (((ji48)).toNat * 7)).off + 3, none⟩ = some (.int .i64 ((rd_T34 x5_1 (ji48)).f3.f0)) ∧ w'.cell? ⟨(ad307.add (((ji48)).toNat * 7)).block, (ad307.add (((ji48)).toNat * 7)).off + 4, none⟩ = some (.int .i64 ((rd_T34 x5_1 (ji48)).f3.f1)) ∧ w'.cell? ⟨(ad307.add (((ji48)).toNat * 7)).block, (ad307.add (((ji48)).toNat * 7)).off + 5, none⟩ = some (.int .i64 ((rd_T34 x5_1 (ji48)).f3.f2)) ∧ w'.cell? ⟨(ad307.add (((ji48)).toNat * 7)).block, (ad307.add (((ji48)).toNat * 7)).off + 6, none⟩ = some (.int .i64 ((rd_T34 x5_1 (ji48)).f3.f3)) ∧ w'.cell? (ad307.add ((t301).toNat * 7)) = some (.int .i64 ((rd_T34 x5_1 t301).f0)) ∧ w'.cell? ⟨(ad307.add ((t301).toNat * 7)).block, (ad307.add ((t301).toNat * 7)).off + 1, none⟩ = some (.int .i64 ((rd_T34 x5_1 t301).f1)) ∧ w'.cell? ⟨(ad307.add ((t301).toNat * 7)).block, (ad307.add ((t301).toNat * 7)).off + 2, none⟩ = some (.int .i64 ((rd_T34 x5_1 t301).f2)) ∧ w'.cell? ⟨(ad307.add ((t301).toNat * 7)).block, (ad307.add ((t301).toNat * 7)).off + 3, none⟩ = some (.int .i64 ((rd_T34 x5_1 t301).f3.f0)) ∧ w'.cell? ⟨(ad307.add ((t301).toNat * 7)).block, (ad307.add ((t301).toNat * 7)).off + 4, none⟩ = some (.int .i64 ((rd_T34 x5_1 t301).f3.f1)) ∧ w'.cell? ⟨(ad307.add ((t301).toNat * 7)).block, (ad307.add ((t301).toNat * 7)).off + 5, none⟩ = some (.int .i64 ((rd_T34 x5_1 t301).f3.f2)) ∧ w'.cell? ⟨(ad307.add ((t301).toNat * 7)).block, (ad307.add ((t301).toNat * 7)).off + 6, none⟩ = some (.int .i64 ((rd_T34 x5_1 t301).f3.f3)) ∧ w'.cell? (ad307.add (((ji48)).toNat * 7)) = some (.int .i64 ((rd_T34 x5_1 (ji48)).f0)) ∧ w'.cell? ⟨(ad307.add (((ji48)).toNat * 7)).block, (ad307.add (((ji48)).toNat * 7)).off + 1, none⟩ = some (.int .i64 ((rd_T34 x5_1 (ji48)).f1)) ∧ w'.cell? ⟨(ad307.add (((ji48)).toNat * 7)).block, (ad307.add (((ji48)).toNat * 7)).off + 2, none⟩ = some (.int .i64 ((rd_T34 x5_1 (ji48)).f2)) ∧ w'.cell? ⟨(ad307.add (((ji48)).toNat * 7)).block, (ad307.add (((ji48)).toNat * 7)).off + 3, none⟩ = some (.int .i64 ((rd_T34 x5_1 (ji48)).f3.f0)) ∧ w'.cell? ⟨(ad307.add (((ji48)).toNat * 7)).block, (ad307.add (((ji48)).toNat * 7)).off + 4, none⟩ = some (.int .i64 ((rd_T34 x5_1 (ji48)).f3.f1)) ∧ w'.cell? ⟨(ad307.add (((ji48)).toNat * 7)).block, (ad307.add (((ji48)).toNat * 7)).off + 5, none⟩ = some (.int .i64 ((rd_T34 x5_1 (ji48)).f3.f2)) ∧ w'.cell? ⟨(ad307.add (((ji48)).toNat * 7)).block, (ad307.add (((ji48)).toNat * 7)).off + 6, none⟩ = some (.int .i64 ((rd_T34 x5_1 (ji48)).f3.f3))) (ds := []) #[false, false, false, false, false, false, false, false, false, false, false, false, false, false, false, false, false, false, false, false, false, false, false, false, false, false, false, false, false, false, false, false, false, false] (by kernel_rfl) rfl rfl ⟨hx307_0, hx307_1, hx307_2, hx307_3, hx307_4, hx307_5, hx307_6, hx308_0, hx308_1, hx308_2, hx308_3, hx308_4, hx308_5, hx308_6, hx309_0, hx309_1, hx309_2, hx309_3, hx309_4, hx309_5, hx309_6, hx310_0, hx310_1, hx310_2, hx310_3, hx310_4, hx310_5, hx310_6⟩ (fun hHeld => ?_); refine with_tabW mutoscopelaw5_KeyEnds.tab23 mutoscopelaw5_KeyEnds.bits23 (fun HT_ HW_ => ?_)
                generalize w56.drew = w57 at HO_5 HB hx307_0 hx307_1 hx307_2 hx307_3 hx307_4 hx307_5 hx307_6 hx308_0 hx308_1 hx308_2 hx308_3 hx308_4 hx308_5 hx308_6 hx309_0 hx309_1 hx309_2 hx309_3 hx309_4 hx309_5 hx309_6 hx310_0 hx310_1 hx310_2 hx310_3 hx310_4 hx310_5 hx310_6 hHeld ⊢
                refine pure_ (i := 0) (N := some 110) (v := ?_) (a' := ?_) #[true, false, false, false, false, false, false, false, false, false, false, false, false, false, false, false, false, false, false, false, false, false, false, false, false, false, false, false, false, false, false, false, false, false] rfl rfl (any_of HT_.out (by kernel_rfl)) (fun _ _ _ h => h) (Or.inl ⟨by rfl, ?_⟩) ?_ ?_
                rotate_left
                ·intro w'
                 go_simp
                 with_reducible rfl
                rotate_left
                ·simp only [Act.put, List.setIfInBounds_toArray, List.set_cons_zero, List.set_cons_succ, i64_w, i32_w]
                 rfl
                refine pure_ (i := 1) (N := some 111) (v := ?_) (a' := ?_) #[true, true, false, false, false, false, false, false, false, false, false, false, false, false, false, false, false, false, false, false, false, false, false, false, false, false, false, false, false, false, false, false, false, false] rfl rfl (any_of HT_.out (by kernel_rfl)) (fun _ _ _ h => h) (Or.inl ⟨by rfl, ?_⟩) ?_ ?_
                rotate_left
                ·intro w'
                 go_simp
                 with_reducible rfl
                rotate_left
                ·simp only [Act.put, List.setIfInBounds_toArray, List.set_cons_zero, List.set_cons_succ, i64_w, i32_w]
                 rfl
                refine pure_ (i := 2) (N := some 112) (v := ?_) (a' := ?_) #[true, true, true, false, false, false, false, false, false, false, false, false, false, false, false, false, false, false, false, false, false, false, false, false, false, false, false, false, false, false, false, false, false, false] rfl rfl (any_of HT_.out (by kernel_rfl)) (fun _ _ _ h => h) (Or.inl ⟨by rfl, ?_⟩) ?_ ?_
                rotate_left
                ·intro w'
                 go_simp
                 with_reducible rfl
                rotate_left
                ·simp only [Act.put, List.setIfInBounds_toArray, List.set_cons_zero, List.set_cons_succ, i64_w, i32_w]
                 rfl
                refine pure_ (i := 3) (N := some 113) (v := ?_) (a' := ?_) #[true, true, true, true, false, false, false, false, false, false, false, false, false, false, false, false, false, false, false, false, false, false, false, false, false, false, false, false, false, false, false, false, false, false] rfl rfl (any_of HT_.out (by kernel_rfl)) (fun _ _ _ h => h) (Or.inl ⟨by rfl, ?_⟩) ?_ ?_
                rotate_left
                ·intro w'
                 go_simp
                 with_reducible rfl
                rotate_left
                ·simp only [Act.put, List.setIfInBounds_toArray, List.set_cons_zero, List.set_cons_succ, i64_w, i32_w]
                 rfl
                refine pure_ (i := 4) (N := some 114) (v := ?_) (a' := ?_) #[true, true, true, true, true, false, false, false, false, false, false, false, false, false, false, false, false, false, false, false, false, false, false, false, false, false, false, false, false, false, false, false, false, false] rfl rfl (any_of HT_.out (by kernel_rfl)) (fun _ _ _ h => h) (Or.inl ⟨by rfl, ?_⟩) ?_ ?_
                rotate_left
                ·intro w'
                 go_simp
                 with_reducible rfl
                rotate_left
                ·simp only [Act.put, List.setIfInBounds_toArray, List.set_cons_zero, List.set_cons_succ, i64_w, i32_w]
                 rfl
                refine pure_ (i := 6) (N := some 116) (v := ?_) (a' := ?_) #[true, true, true, true, true, false, true, false, false, false, false, false, false, false, false, false, false, false, false, false, false, false, false, false, false, false, false, false, false, false, false, false, false, false] rfl rfl (any_of HT_.out (by kernel_rfl)) (fun _ _ _ h => h) (Or.inl ⟨by rfl, ?_⟩) ?_ ?_
                rotate_left
                ·intro w'
                 go_simp
                 with_reducible rfl
                rotate_left
                ·simp only [Act.put, List.setIfInBounds_toArray, List.set_cons_zero, List.set_cons_succ, i64_w, i32_w]
                 rfl
                refine pure_ (i := 7) (N := some 117) (v := ?_) (a' := ?_) #[true, true, true, true, true, false, true, true, false, false, false, false, false, false, false, false, false, false, false, false, false, false, false, false, false, false, false, false, false, false, false, false, false, false] rfl rfl (any_of HT_.out (by kernel_rfl)) (fun _ _ _ h => h) (Or.inl ⟨by rfl, ?_⟩) ?_ ?_
                rotate_left
                ·intro w'
                 go_simp
                 with_reducible rfl
                rotate_left
                ·simp only [Act.put, List.setIfInBounds_toArray, List.set_cons_zero, List.set_cons_succ, i64_w, i32_w]
                 rfl
                refine pure_ (i := 8) (N := some 118) (v := ?_) (a' := ?_) #[true, true, true, true, true, false, true, true, true, false, false, false, false, false, false, false, false, false, false, false, false, false, false, false, false, false, false, false, false, false, false, false, false, false] rfl rfl (any_of HT_.out (by kernel_rfl)) (fun _ _ _ h => h) (Or.inl ⟨by rfl, ?_⟩) ?_ ?_
                rotate_left
                ·intro w'
                 go_simp
                 with_reducible rfl
                rotate_left
                ·simp only [Act.put, List.setIfInBounds_toArray, List.set_cons_zero, List.set_cons_succ, i64_w, i32_w]
                 rfl
                refine pure_ (i := 9) (N := some 119) (v := ?_) (a' := ?_) #[true, true, true, true, true, false, true, true, true, true, false, false, false, false, false, false, false, false, false, false, false, false, false, false, false, false, false, false, false, false, false, false, false, false] rfl rfl (any_of HT_.out (by kernel_rfl)) (fun _ _ _ h => h) (Or.inl ⟨by rfl, ?_⟩) ?_ ?_
                rotate_left
                ·intro w'
                 go_simp
                 with_reducible rfl
                rotate_left
                ·simp only [Act.put, List.setIfInBounds_toArray, List.set_cons_zero, List.set_cons_succ, i64_w, i32_w]
                 rfl
                refine pure_ (i := 10) (N := some 120) (v := ?_) (a' := ?_) #[true, true, true, true, true, false, true, true, true, true, true, false, false, false, false, false, false, false, false, false, false, false, false, false, false, false, false, false, false, false, false, false, false, false] rfl rfl (any_of HT_.out (by kernel_rfl)) (fun _ _ _ h => h) (Or.inl ⟨by rfl, ?_⟩) ?_ ?_
                rotate_left
                ·intro w'
                 go_simp
                 with_reducible rfl
                rotate_left
                ·simp only [Act.put, List.setIfInBounds_toArray, List.set_cons_zero, List.set_cons_succ, i64_w, i32_w]
                 rfl
                refine take_ (i := 5) (N := some 115) (v := ?_) (a' := ?_) #[true, true, true, true, true, true, true, true, true, true, true, false, false, false, false, false, false, false, false, false, false, false, false, false, false, false, false, false, false, false, false, false, false, false] rfl rfl (take_ofW HT_.out HW_.out (by kernel_rfl)) (fun _ _ _ h => h) (Or.inl ⟨by rfl, ?_⟩) hHeld ?_ ?_
                rotate_left
                ·rintro w' ⟨s0, s1, s2, s3, s4, s5, s6, s7, s8, s9, s10, s11, s12, s13, s14, s15, s16, s17, s18, s19, s20, s21, s22, s23, s24, s25, s26, s27⟩
                 go_simp
                 with_reducible rfl
                rotate_left
                ·simp only [Act.put, List.setIfInBounds_toArray, List.set_cons_zero, List.set_cons_succ, i64_w, i32_w]
                 rfl
                refine take_ (i := 11) (N := some 121) (v := ?_) (a' := ?_) #[true, true, true, true, true, true, true, true, true, true, true, true, false, false, false, false, false, false, false, false, false, false, false, false, false, false, false, false, false, false, false, false, false, false] rfl rfl (take_ofW HT_.out HW_.out (by kernel_rfl)) (fun _ _ _ h => h) (Or.inl ⟨by rfl, ?_⟩) hHeld ?_ ?_
                rotate_left
                ·rintro w' ⟨s0, s1, s2, s3, s4, s5, s6, s7, s8, s9, s10, s11, s12, s13, s14, s15, s16, s17, s18, s19, s20, s21, s22, s23, s24, s25, s26, s27⟩
                 go_simp
                 with_reducible rfl
                rotate_left
                ·simp only [Act.put, List.setIfInBounds_toArray, List.set_cons_zero, List.set_cons_succ, i64_w, i32_w]
                 rfl
                refine pure_ (i := 12) (N := some 122) (v := ?_) (a' := ?_) #[true, true, true, true, true, true, true, true, true, true, true, true, true, false, false, false, false, false, false, false, false, false, false, false, false, false, false, false, false, false, false, false, false, false] rfl rfl (any_of HT_.out (by kernel_rfl)) (fun _ _ _ h => h) (Or.inl ⟨by rfl, ?_⟩) ?_ ?_
                rotate_left
                ·intro w'
                 go_simp
                 with_reducible rfl
                rotate_left
                ·simp only [Act.put, List.setIfInBounds_toArray, List.set_cons_zero, List.set_cons_succ, i64_w, i32_w]
                 rfl
                refine pure_ (i := 13) (N := some 123) (v := ?_) (a' := ?_) #[true, true, true, true, true, true, true, true, true, true, true, true, true, true, false, false, false, false, false, false, false, false, false, false, false, false, false, false, false, false, false, false, false, false] rfl rfl (any_of HT_.out (by kernel_rfl)) (fun _ _ _ h => h) (Or.inl ⟨by rfl, ?_⟩) ?_ ?_
                rotate_left
                ·intro w'
                 go_simp
                 with_reducible rfl
                rotate_left
                ·simp only [Act.put, List.setIfInBounds_toArray, List.set_cons_zero, List.set_cons_succ, i64_w, i32_w]
                 rfl
                refine pure_ (i := 14) (N := some 124) (v := ?_) (a' := ?_) #[true, true, true, true, true, true, true, true, true, true, true, true, true, true, true, false, false, false, false, false, false, false, false, false, false, false, false, false, false, false, false, false, false, false] rfl rfl (any_of HT_.out (by kernel_rfl)) (fun _ _ _ h => h) (Or.inl ⟨by rfl, ?_⟩) ?_ ?_
                rotate_left
                ·intro w'
                 go_simp
                 with_reducible rfl
                rotate_left
                ·simp only [Act.put, List.setIfInBounds_toArray, List.set_cons_zero, List.set_cons_succ, i64_w, i32_w]
                 rfl
                refine pure_ (i := 15) (N := some 125) (v := ?_) (a' := ?_) #[true, true, true, true, true, true, true, true, true, true, true, true, true, true, true, true, false, false, false, false, false, false, false, false, false, false, false, false, false, false, false, false, false, false] rfl rfl (any_of HT_.out (by kernel_rfl)) (fun _ _ _ h => h) (Or.inl ⟨by rfl, ?_⟩) ?_ ?_
                rotate_left
                ·intro w'
                 go_simp
                 with_reducible rfl
                rotate_left
                ·simp only [Act.put, List.setIfInBounds_toArray, List.set_cons_zero, List.set_cons_succ, i64_w, i32_w]
                 rfl
                refine pure_ (i := 16) (N := some 126) (v := ?_) (a' := ?_) #[true, true, true, true, true, true, true, true, true, true, true, true, true, true, true, true, true, false, false, false, false, false, false, false, false, false, false, false, false, false, false, false, false, false] rfl rfl (any_of HT_.out (by kernel_rfl)) (fun _ _ _ h => h) (Or.inl ⟨by rfl, ?_⟩) ?_ ?_
                rotate_left
                ·intro w'
                 go_simp
                 with_reducible rfl
                rotate_left
                ·simp only [Act.put, List.setIfInBounds_toArray, List.set_cons_zero, List.set_cons_succ, i64_w, i32_w]
                 rfl
                refine pure_ (i := 17) (N := some 127) (v := ?_) (a' := ?_) #[true, true, true, true, true, true, true, true, true, true, true, true, true, true, true, true, true, true, false, false, false, false, false, false, false, false, false, false, false, false, false, false, false, false] rfl rfl (any_of HT_.out (by kernel_rfl)) (fun _ _ _ h => h) (Or.inl ⟨by rfl, ?_⟩) ?_ ?_
                rotate_left
                ·intro w'
                 go_simp
                 with_reducible rfl
                rotate_left
                ·simp only [Act.put, List.setIfInBounds_toArray, List.set_cons_zero, List.set_cons_succ, i64_w, i32_w]
                 rfl
                refine pure_ (i := 18) (N := some 128) (v := ?_) (a' := ?_) #[true, true, true, true, true, true, true, true, true, true, true, true, true, true, true, true, true, true, true, false, false, false, false, false, false, false, false, false, false, false, false, false, false, false] rfl rfl (any_of HT_.out (by kernel_rfl)) (fun _ _ _ h => h) (Or.inl ⟨by rfl, ?_⟩) ?_ ?_
                rotate_left
                ·intro w'
                 go_simp
                 with_reducible rfl
                rotate_left
                ·simp only [Act.put, List.setIfInBounds_toArray, List.set_cons_zero, List.set_cons_succ, i64_w, i32_w]
                 rfl
                refine pure_ (i := 19) (N := some 129) (v := ?_) (a' := ?_) #[true, true, true, true, true, true, true, true, true, true, true, true, true, true, true, true, true, true, true, true, false, false, false, false, false, false, false, false, false, false, false, false, false, false] rfl rfl (any_of HT_.out (by kernel_rfl)) (fun _ _ _ h => h) (Or.inl ⟨by rfl, ?_⟩) ?_ ?_
                rotate_left
                ·intro w'
                 go_simp
                 with_reducible rfl
                rotate_left
                ·simp only [Act.put, List.setIfInBounds_toArray, List.set_cons_zero, List.set_cons_succ, i64_w, i32_w]
                 rfl
                refine pure_ (i := 21) (N := some 131) (v := ?_) (a' := ?_) #[true, true, true, true, true, true, true, true, true, true, true, true, true, true, true, true, true, true, true, true, false, true, false, false, false, false, false, false, false, false, false, false, false, false] rfl rfl (any_of HT_.out (by kernel_rfl)) (fun _ _ _ h => h) (Or.inl ⟨by rfl, ?_⟩) ?_ ?_
                rotate_left
                ·intro w'
                 go_simp
                 with_reducible rfl
                rotate_left
                ·simp only [Act.put, List.setIfInBounds_toArray, List.set_cons_zero, List.set_cons_succ, i64_w, i32_w]
                 rfl
                refine pure_ (i := 22) (N := some 132) (v := ?_) (a' := ?_) #[true, true, true, true, true, true, true, true, true, true, true, true, true, true, true, true, true, true, true, true, false, true, true, false, false, false, false, false, false, false, false, false, false, false] rfl rfl (any_of HT_.out (by kernel_rfl)) (fun _ _ _ h => h) (Or.inl ⟨by rfl, ?_⟩) ?_ ?_
                rotate_left
                ·intro w'
                 go_simp
                 with_reducible rfl
                rotate_left
                ·simp only [Act.put, List.setIfInBounds_toArray, List.set_cons_zero, List.set_cons_succ, i64_w, i32_w]
                 rfl
                refine pure_ (i := 23) (N := some 133) (v := ?_) (a' := ?_) #[true, true, true, true, true, true, true, true, true, true, true, true, true, true, true, true, true, true, true, true, false, true, true, true, false, false, false, false, false, false, false, false, false, false] rfl rfl (any_of HT_.out (by kernel_rfl)) (fun _ _ _ h => h) (Or.inl ⟨by rfl, ?_⟩) ?_ ?_
                rotate_left
                ·intro w'
                 go_simp
                 with_reducible rfl
                rotate_left
                ·simp only [Act.put, List.setIfInBounds_toArray, List.set_cons_zero, List.set_cons_succ, i64_w, i32_w]
                 rfl
                refine pure_ (i := 24) (N := some 134) (v := ?_) (a' := ?_) #[true, true, true, true, true, true, true, true, true, true, true, true, true, true, true, true, true, true, true, true, false, true, true, true, true, false, false, false, false, false, false, false, false, false] rfl rfl (any_of HT_.out (by kernel_rfl)) (fun _ _ _ h => h) (Or.inl ⟨by rfl, ?_⟩) ?_ ?_
                rotate_left
                ·intro w'
                 go_simp
                 with_reducible rfl
                rotate_left
                ·simp only [Act.put, List.setIfInBounds_toArray, List.set_cons_zero, List.set_cons_succ, i64_w, i32_w]
                 rfl
                refine pure_ (i := 25) (N := some 135) (v := ?_) (a' := ?_) #[true, true, true, true, true, true, true, true, true, true, true, true, true, true, true, true, true, true, true, true, false, true, true, true, true, true, false, false, false, false, false, false, false, false] rfl rfl (any_of HT_.out (by kernel_rfl)) (fun _ _ _ h => h) (Or.inl ⟨by rfl, ?_⟩) ?_ ?_
                rotate_left
                ·intro w'
                 go_simp
                 with_reducible rfl
                rotate_left
                ·simp only [Act.put, List.setIfInBounds_toArray, List.set_cons_zero, List.set_cons_succ, i64_w, i32_w]
                 rfl
                refine take_ (i := 20) (N := some 130) (v := ?_) (a' := ?_) #[true, true, true, true, true, true, true, true, true, true, true, true, true, true, true, true, true, true, true, true, true, true, true, true, true, true, false, false, false, false, false, false, false, false] rfl rfl (take_ofW HT_.out HW_.out (by kernel_rfl)) (fun _ _ _ h => h) (Or.inl ⟨by rfl, ?_⟩) hHeld ?_ ?_
                rotate_left
                ·rintro w' ⟨s0, s1, s2, s3, s4, s5, s6, s7, s8, s9, s10, s11, s12, s13, s14, s15, s16, s17, s18, s19, s20, s21, s22, s23, s24, s25, s26, s27⟩
                 go_simp
                 with_reducible rfl
                rotate_left
                ·simp only [Act.put, List.setIfInBounds_toArray, List.set_cons_zero, List.set_cons_succ, i64_w, i32_w]
                 rfl
                refine take_ (i := 26) (N := some 136) (v := ?_) (a' := ?_) #[true, true, true, true, true, true, true, true, true, true, true, true, true, true, true, true, true, true, true, true, true, true, true, true, true, true, true, false, false, false, false, false, false, false] rfl rfl (take_ofW HT_.out HW_.out (by kernel_rfl)) (fun _ _ _ h => h) (Or.inl ⟨by rfl, ?_⟩) hHeld ?_ ?_
                rotate_left
                ·rintro w' ⟨s0, s1, s2, s3, s4, s5, s6, s7, s8, s9, s10, s11, s12, s13, s14, s15, s16, s17, s18, s19, s20, s21, s22, s23, s24, s25, s26, s27⟩
                 go_simp
                 with_reducible rfl
                rotate_left
                ·simp only [Act.put, List.setIfInBounds_toArray, List.set_cons_zero, List.set_cons_succ, i64_w, i32_w]
                 rfl
                refine pure_ (i := 27) (N := some 137) (v := ?_) (a' := ?_) #[true, true, true, true, true, true, true, true, true, true, true, true, true, true, true, true, true, true, true, true, true, true, true, true, true, true, true, true, false, false, false, false, false, false] rfl rfl (any_of HT_.out (by kernel_rfl)) (fun _ _ _ h => h) (Or.inl ⟨by rfl, ?_⟩) ?_ ?_
                rotate_left
                ·intro w'
                 go_simp
                 with_reducible rfl
                rotate_left
                ·simp only [Act.put, List.setIfInBounds_toArray, List.set_cons_zero, List.set_cons_succ, i64_w, i32_w]
                 rfl
                refine pure_ (i := 28) (N := some 138) (v := ?_) (a' := ?_) #[true, true, true, true, true, true, true, true, true, true, true, true, true, true, true, true, true, true, true, true, true, true, true, true, true, true, true, true, true, false, false, false, false, false] rfl rfl (any_of HT_.out (by kernel_rfl)) (fun _ _ _ h => h) (Or.inl ⟨by rfl, ?_⟩) ?_ ?_
                rotate_left
                ·intro w'
                 go_simp
                 with_reducible rfl
                rotate_left
                ·simp only [Act.put, List.setIfInBounds_toArray, List.set_cons_zero, List.set_cons_succ, i64_w, i32_w]
                 rfl
                refine pure_ (i := 29) (N := some 139) (v := ?_) (a' := ?_) #[true, true, true, true, true, true, true, true, true, true, true, true, true, true, true, true, true, true, true, true, true, true, true, true, true, true, true, true, true, true, false, false, false, false] rfl rfl (any_of HT_.out (by kernel_rfl)) (fun _ _ _ h => h) (Or.inl ⟨by rfl, ?_⟩) ?_ ?_
                rotate_left
                ·intro w'
                 go_simp
                 with_reducible rfl
                rotate_left
                ·simp only [Act.put, List.setIfInBounds_toArray, List.set_cons_zero, List.set_cons_succ, i64_w, i32_w]
                 rfl
                refine pure_ (i := 30) (N := some 140) (v := ?_) (a' := ?_) #[true, true, true, true, true, true, true, true, true, true, true, true, true, true, true, true, true, true, true, true, true, true, true, true, true, true, true, true, true, true, true, false, false, false] rfl rfl (any_of HT_.out (by kernel_rfl)) (fun _ _ _ h => h) (Or.inl ⟨by rfl, ?_⟩) ?_ ?_
                rotate_left
                ·intro w'
                 go_simp
                 with_reducible rfl
                rotate_left
                ·simp only [Act.put, List.setIfInBounds_toArray, List.set_cons_zero, List.set_cons_succ, i64_w, i32_w]
                 rfl
                refine one_ (i := 31) (N := some 141) #[true, true, true, true, true, true, true, true, true, true, true, true, true, true, true, true, true, true, true, true, true, true, true, true, true, true, true, true, true, true, true, true, false, false] rfl rfl (one_of HT_.out (by kernel_rfl)) (by decide) (fun K hK => ?_)
                refine goes_ Try.func20 (by kernel_rfl) rfl #[] (by rfl) rfl rfl (by (try simp only [List.map_toArray, List.map_cons, List.map_nil]); first | done | rfl | (simp only [List.length_drop, List.length_take]; rfl)) ?_
                with_reducible refine (mutoscopelaw5_known.calls k2  t311 _ A55.out).mono ?_
                rintro e w58 ⟨rfl, hb⟩
                have HS0_ := (hb.cell (World.block_lt_of_cell? _ _ (hHeld.1))).trans (hHeld.1)
                have HS1_ := (hb.cell (World.block_lt_of_cell? _ _ (hHeld.2.1))).trans (hHeld.2.1)
                have HS2_ := (hb.cell (World.block_lt_of_cell? _ _ (hHeld.2.2.1))).trans (hHeld.2.2.1)
                have HS3_ := (hb.cell (World.block_lt_of_cell? _ _ (hHeld.2.2.2.1))).trans (hHeld.2.2.2.1)
                have HS4_ := (hb.cell (World.block_lt_of_cell? _ _ (hHeld.2.2.2.2.1))).trans (hHeld.2.2.2.2.1)
                have HS5_ := (hb.cell (World.block_lt_of_cell? _ _ (hHeld.2.2.2.2.2.1))).trans (hHeld.2.2.2.2.2.1)
                have HS6_ := (hb.cell (World.block_lt_of_cell? _ _ (hHeld.2.2.2.2.2.2.1))).trans (hHeld.2.2.2.2.2.2.1)
                have HS7_ := (hb.cell (World.block_lt_of_cell? _ _ (hHeld.2.2.2.2.2.2.2.1))).trans (hHeld.2.2.2.2.2.2.2.1)
                have HS8_ := (hb.cell (World.block_lt_of_cell? _ _ (hHeld.2.2.2.2.2.2.2.2.1))).trans (hHeld.2.2.2.2.2.2.2.2.1)
                have HS9_ := (hb.cell (World.block_lt_of_cell? _ _ (hHeld.2.2.2.2.2.2.2.2.2.1))).trans (hHeld.2.2.2.2.2.2.2.2.2.1)
                have HS10_ := (hb.cell (World.block_lt_of_cell? _ _ (hHeld.2.2.2.2.2.2.2.2.2.2.1))).trans (hHeld.2.2.2.2.2.2.2.2.2.2.1)
                have HS11_ := (hb.cell (World.block_lt_of_cell? _ _ (hHeld.2.2.2.2.2.2.2.2.2.2.2.1))).trans (hHeld.2.2.2.2.2.2.2.2.2.2.2.1)
                have HS12_ := (hb.cell (World.block_lt_of_cell? _ _ (hHeld.2.2.2.2.2.2.2.2.2.2.2.2.1))).trans (hHeld.2.2.2.2.2.2.2.2.2.2.2.2.1)
                have HS13_ := (hb.cell (World.block_lt_of_cell? _ _ (hHeld.2.2.2.2.2.2.2.2.2.2.2.2.2.1))).trans (hHeld.2.2.2.2.2.2.2.2.2.2.2.2.2.1)
                have HS14_ := (hb.cell (World.block_lt_of_cell? _ _ (hHeld.2.2.2.2.2.2.2.2.2.2.2.2.2.2.1))).trans (hHeld.2.2.2.2.2.2.2.2.2.2.2.2.2.2.1)
                have HS15_ := (hb.cell (World.block_lt_of_cell? _ _ (hHeld.2.2.2.2.2.2.2.2.2.2.2.2.2.2.2.1))).trans (hHeld.2.2.2.2.2.2.2.2.2.2.2.2.2.2.2.1)
                have HS16_ := (hb.cell (World.block_lt_of_cell? _ _ (hHeld.2.2.2.2.2.2.2.2.2.2.2.2.2.2.2.2.1))).trans (hHeld.2.2.2.2.2.2.2.2.2.2.2.2.2.2.2.2.1)
                have HS17_ := (hb.cell (World.block_lt_of_cell? _ _ (hHeld.2.2.2.2.2.2.2.2.2.2.2.2.2.2.2.2.2.1))).trans (hHeld.2.2.2.2.2.2.2.2.2.2.2.2.2.2.2.2.2.1)
                have HS18_ := (hb.cell (World.block_lt_of_cell? _ _ (hHeld.2.2.2.2.2.2.2.2.2.2.2.2.2.2.2.2.2.2.1))).trans (hHeld.2.2.2.2.2.2.2.2.2.2.2.2.2.2.2.2.2.2.1)
                have HS19_ := (hb.cell (World.block_lt_of_cell? _ _ (hHeld.2.2.2.2.2.2.2.2.2.2.2.2.2.2.2.2.2.2.2.1))).trans (hHeld.2.2.2.2.2.2.2.2.2.2.2.2.2.2.2.2.2.2.2.1)
                have HS20_ := (hb.cell (World.block_lt_of_cell? _ _ (hHeld.2.2.2.2.2.2.2.2.2.2.2.2.2.2.2.2.2.2.2.2.1))).trans (hHeld.2.2.2.2.2.2.2.2.2.2.2.2.2.2.2.2.2.2.2.2.1)
                have HS21_ := (hb.cell (World.block_lt_of_cell? _ _ (hHeld.2.2.2.2.2.2.2.2.2.2.2.2.2.2.2.2.2.2.2.2.2.1))).trans (hHeld.2.2.2.2.2.2.2.2.2.2.2.2.2.2.2.2.2.2.2.2.2.1)
                have HS22_ := (hb.cell (World.block_lt_of_cell? _ _ (hHeld.2.2.2.2.2.2.2.2.2.2.2.2.2.2.2.2.2.2.2.2.2.2.1))).trans (hHeld.2.2.2.2.2.2.2.2.2.2.2.2.2.2.2.2.2.2.2.2.2.2.1)
                have HS23_ := (hb.cell (World.block_lt_of_cell? _ _ (hHeld.2.2.2.2.2.2.2.2.2.2.2.2.2.2.2.2.2.2.2.2.2.2.2.1))).trans (hHeld.2.2.2.2.2.2.2.2.2.2.2.2.2.2.2.2.2.2.2.2.2.2.2.1)
                have HS24_ := (hb.cell (World.block_lt_of_cell? _ _ (hHeld.2.2.2.2.2.2.2.2.2.2.2.2.2.2.2.2.2.2.2.2.2.2.2.2.1))).trans (hHeld.2.2.2.2.2.2.2.2.2.2.2.2.2.2.2.2.2.2.2.2.2.2.2.2.1)
                have HS25_ := (hb.cell (World.block_lt_of_cell? _ _ (hHeld.2.2.2.2.2.2.2.2.2.2.2.2.2.2.2.2.2.2.2.2.2.2.2.2.2.1))).trans (hHeld.2.2.2.2.2.2.2.2.2.2.2.2.2.2.2.2.2.2.2.2.2.2.2.2.2.1)
                have HS26_ := (hb.cell (World.block_lt_of_cell? _ _ (hHeld.2.2.2.2.2.2.2.2.2.2.2.2.2.2.2.2.2.2.2.2.2.2.2.2.2.2.1))).trans (hHeld.2.2.2.2.2.2.2.2.2.2.2.2.2.2.2.2.2.2.2.2.2.2.2.2.2.2.1)
                have HS27_ := (hb.cell (World.block_lt_of_cell? _ _ (hHeld.2.2.2.2.2.2.2.2.2.2.2.2.2.2.2.2.2.2.2.2.2.2.2.2.2.2.2))).trans (hHeld.2.2.2.2.2.2.2.2.2.2.2.2.2.2.2.2.2.2.2.2.2.2.2.2.2.2.2)
                refine ⟨_, rfl, ?_⟩
                have n0_ := Aside0.mk (Kd.R_below (by (with_reducible repeat (first | apply Kd.R_alloc | apply Kd.R_drewN | apply Kd.R_drew)); exact HO_5.out) hb)
                have n1_ := Aside0.mk (below_step (by repeat (first | (with_reducible first | exact HB.out | apply below_alloc | apply pw_below_drewN | apply below_drew1) | exact HB.out)) hb)
                clear HO_5
                clear HB
                have HO_5 := n0_
                have HB := n1_
                clear n0_ n1_
                (try clear hb)
                (try clear hb2)
                (try clear hk)
                (try clear hi)
                refine hK.out _ _ ⟨HS0_, HS1_, HS2_, HS3_, HS4_, HS5_, HS6_, HS7_, HS8_, HS9_, HS10_, HS11_, HS12_, HS13_, HS14_, HS15_, HS16_, HS17_, HS18_, HS19_, HS20_, HS21_, HS22_, HS23_, HS24_, HS25_, HS26_, HS27_⟩ (fun hHeld => ?_)
                clear hK K
                refine norm_ (a' := ?_) ?_ ?_
                rotate_left
                ·show Act.put _ (some 141) _ = _
                 simp only [Act.put, List.setIfInBounds_toArray, List.set_cons_zero, List.set_cons_succ, i64_w, i32_w]
                 rfl
                refine pure_ (i := 32) (N := some 142) (v := ?_) (a' := ?_) #[true, true, true, true, true, true, true, true, true, true, true, true, true, true, true, true, true, true, true, true, true, true, true, true, true, true, true, true, true, true, true, true, true, false] rfl rfl (any_of HT_.out (by kernel_rfl)) (fun _ _ _ h => h) (Or.inl ⟨by rfl, ?_⟩) ?_ ?_
                rotate_left
                ·intro w'
                 go_simp
                 with_reducible rfl
                rotate_left
                ·simp only [Act.put, List.setIfInBounds_toArray, List.set_cons_zero, List.set_cons_succ, i64_w, i32_w]
                 rfl
                refine pure_ (i := 33) (N := some 4) (v := ?_) (a' := ?_) #[true, true, true, true, true, true, true, true, true, true, true, true, true, true, true, true, true, true, true, true, true, true, true, true, true, true, true, true, true, true, true, true, true, true] rfl rfl (any_of HT_.out (by kernel_rfl)) (fun _ _ _ h => h) (Or.inl ⟨by rfl, ?_⟩) ?_ ?_
                rotate_left
                ·intro w'
                 go_simp
                 with_reducible rfl
                rotate_left
                ·simp only [Act.put, List.setIfInBounds_toArray, List.set_cons_zero, List.set_cons_succ, i64_w, i32_w]
                 rfl
                refine done_ (done_of HT_.out (by kernel_rfl)) ?_
                try go_wp2
                go_ret
                exact ⟨by first | rfl | (simp [errW_none, errW_some] <;> rfl) | (simp only [← hji48, ← hji51, ← hji53]; first | rfl | (simp [errW_none, errW_some] <;> rfl)) | (simp [*, errW_none, errW_some] <;> rfl), by repeat (first | (with_reducible first | exact HB.out | apply below_alloc | apply pw_below_drewN | apply below_drew1) | exact HB.out)⟩
               ·rw [if_neg c54] at H
                have c54b0 : decide (t302 ≤ (ji53)) = false := decide_eq_false c54
                clear c54
                exact absurd H (by simp)
              ·rw [if_neg c52] at H
               have c52b0 : decide ((ji51) ≤ t302) = false := decide_eq_false c52
               clear c52
               exact absurd H (by simp)
             ·rw [if_neg c50] at H
              exact absurd H (by simp)
            ·rw [if_neg c49] at H
             exact absurd H (by simp)
           ·rw [if_neg c47] at H
            exact absurd H (by simp)
          ·rw [if_neg c46] at H
           exact absurd H (by simp)
def mutoscopelaw5_KeyEnds.Pure : Prop := ∀ (l0 : List (S34)) (a1 : Int), (l0.length ≤ maxLen ∧ ∀ y_, y_ ∈ l0 → ((Lit.int .i64 y_.f0).wf = true) ∧ ((Lit.int .i64 y_.f1).wf = true) ∧ ((Lit.int .i64 y_.f2).wf = true) ∧ (((Lit.int .i64 y_.f3.f0).wf = true) ∧ ((Lit.int .i64 y_.f3.f1).wf = true) ∧ ((Lit.int .i64 y_.f3.f2).wf = true) ∧ ((Lit.int .i64 y_.f3.f3).wf = true))) → ((Lit.int .i64 a1).wf = true) → ∃ k, mutoscopelaw5_KeyEnds.f k l0 a1 = some true
end Go.Proofs.Ytejnbjclcdmopaa.PA
end

section
set_option linter.unusedVariables false
namespace Go.Proofs.Ytejnbjclcdmopaa.MB
open Go.RowKit
theorem w64 {x : Int} (h : -9223372036854775808 ≤ x) (h' : x ≤ 9223372036854775807) : wrap64 x = x := by unfold wrap64; omega
theorem u64w (x : Int) : IntKind.u64.wrap x = x % 18446744073709551616 := by simp [IntKind.wrap, IntKind.bits, IntKind.signed]
theorem and_low (k : IntKind) (j : Nat) (hj : j < k.bits) (hk : ∀ n : Int, 0 ≤ n → n < 2 ^ j → k.wrap n = n) (a : Int) :
    bits .and k a (2 ^ j - 1) = a % 2 ^ j := by
  have hpos : 0 < 2 ^ j := Nat.two_pow_pos j
  have hc : ((2 : Int) ^ j - 1) = ((2 ^ j - 1 : Nat) : Int) := by
    rw [Int.natCast_sub hpos]; simp
  have hp : 2 ^ j ≤ 2 ^ k.bits := Nat.pow_le_pow_right (by decide) (Nat.le_of_lt hj)
  have hm : (2 ^ j - 1) % 2 ^ k.bits = 2 ^ j - 1 := Nat.mod_eq_of_lt (by omega)
  rw [hc]
  simp only [bits, BitVec.ofInt_natCast, BitVec.toNat_and, BitVec.toNat_ofNat, hm, BitVec.toNat_ofInt]
  rw [Nat.and_two_pow_sub_one_eq_mod]
  have hn : 0 ≤ a % (2 ^ k.bits : Int) := Int.emod_nonneg _ (by have := Int.pow_pos (n := 2) (m := k.bits) (by decide); omega)
  have hd : ((2 : Int) ^ j) ∣ 2 ^ k.bits := ⟨2 ^ (k.bits - j), by rw [← Int.pow_add]; congr 1; omega⟩
  have he : ((((a % ((2 ^ k.bits : Nat) : Int)).toNat % 2 ^ j : Nat)) : Int) = a % 2 ^ j := by
    rw [Int.natCast_emod, Int.toNat_of_nonneg (by rw [Int.natCast_pow]; exact hn)]
    rw [Int.natCast_pow, Int.natCast_pow]
    exact Int.emod_emod_of_dvd a hd
  have hlo := Int.emod_nonneg a (b := (2 : Int) ^ j) (by have := Int.pow_pos (n := 2) (m := j) (by decide); omega)
  have hhi := Int.emod_lt_of_pos a (b := (2 : Int) ^ j) (Int.pow_pos (by decide))
  rw [hk _ (Int.natCast_nonneg _) (by rw [he]; exact hhi), he]
theorem and32u (a : Int) : bits .and .u64 a 4294967295 = a % 4294967296 := and_low .u64 32 (by decide) (fun n h h' => by rw [u64w]; omega) a
theorem mul64_parts (x y x1 x0 y1 y0 : Int) (hx : x = x1 * 4294967296 + x0) (hy : y = y1 * 4294967296 + y0) (h1 : 0 ≤ x1 ∧ x1 < 4294967296) (h2 : 0 ≤ x0 ∧ x0 < 4294967296) (h3 : 0 ≤ y1 ∧ y1 < 4294967296) (h4 : 0 ≤ y0 ∧ y0 < 4294967296) :
    IntKind.u64.wrap ((IntKind.u64.wrap ((IntKind.u64.wrap (x1 * y1)) + ((IntKind.u64.wrap ((IntKind.u64.wrap (x1 * y0)) + ((IntKind.u64.wrap (x0 * y0)) / 4294967296))) / 4294967296))) + ((IntKind.u64.wrap (((IntKind.u64.wrap ((IntKind.u64.wrap (x1 * y0)) + ((IntKind.u64.wrap (x0 * y0)) / 4294967296))) % 4294967296) + (IntKind.u64.wrap (x0 * y1)))) / 4294967296)) = x * y / 18446744073709551616 := by
  have bd : ∀ p q : Int, 0 ≤ p ∧ p < 4294967296 → 0 ≤ q ∧ q < 4294967296 → 0 ≤ p * q ∧ p * q ≤ 18446744065119617025 := fun p q ⟨a, b⟩ ⟨c, d⟩ =>
    ⟨Int.mul_nonneg a c, Int.le_trans (Int.mul_le_mul_of_nonneg_left (show q ≤ 4294967295 by omega) a) (by omega)⟩
  obtain ⟨a1, b1⟩ := bd x1 y1 h1 h3
  obtain ⟨a2, b2⟩ := bd x1 y0 h1 h4
  obtain ⟨a3, b3⟩ := bd x0 y1 h2 h3
  obtain ⟨a4, b4⟩ := bd x0 y0 h2 h4
  have e : x * y = x1 * y1 * 18446744073709551616 + (x1 * y0 + x0 * y1) * 4294967296 + x0 * y0 := by
    subst hx hy
    grind
  generalize x1 * y1 = p11 at *
  generalize x1 * y0 = p10 at *
  generalize x0 * y1 = p01 at *
  generalize x0 * y0 = p00 at *
  simp only [u64w]
  rw [e]
  omega
def cl (a lo hi : Int) : Int := if a < lo then lo else if a > hi then hi else a
def hd (a : Int) : Int := cl a (-1099511627776) 1099511627776
def mul (a b : Int) : Int := hd (hd a * hd b / 65536)
def add (a b : Int) : Int := hd (hd a + hd b)
theorem hd_bd (a : Int) : -1099511627776 ≤ hd a ∧ hd a ≤ 1099511627776 := by unfold hd cl; split <;> (try split) <;> omega
theorem hd_of {a : Int} (h : -1099511627776 ≤ a) (h' : a ≤ 1099511627776) : hd a = a := by unfold hd cl; rw [if_neg (by omega), if_neg (by omega)]
theorem hd_hi {a : Int} (h : 1099511627776 ≤ a) : hd a = 1099511627776 := by unfold hd cl; rw [if_neg (by omega)]; split <;> omega
theorem hd_lo {a : Int} (h : a ≤ -1099511627776) : hd a = -1099511627776 := by unfold hd cl; split <;> (try split) <;> omega
theorem cl_bd (a lo hi : Int) (h : lo ≤ hi) : lo ≤ cl a lo hi ∧ cl a lo hi ≤ hi := by unfold cl; split <;> (try split) <;> omega
theorem mul_bd (a b : Int) : -1099511627776 ≤ mul a b ∧ mul a b ≤ 1099511627776 := hd_bd _
theorem prod_bd (a b : Int) (ha : -1099511627776 ≤ a ∧ a ≤ 1099511627776) (hb : -1099511627776 ≤ b ∧ b ≤ 1099511627776) : -1208925819614629174706176 ≤ a * b ∧ a * b ≤ 1208925819614629174706176 := by
  obtain ⟨a1, a2⟩ := ha
  obtain ⟨b1, b2⟩ := hb
  have h1 : 0 ≤ (1099511627776 - a) * (1099511627776 + b) := Int.mul_nonneg (by omega) (by omega)
  have h2 : 0 ≤ (1099511627776 + a) * (1099511627776 - b) := Int.mul_nonneg (by omega) (by omega)
  have h3 : 0 ≤ (1099511627776 - a) * (1099511627776 - b) := Int.mul_nonneg (by omega) (by omega)
  have h4 : 0 ≤ (1099511627776 + a) * (1099511627776 + b) := Int.mul_nonneg (by omega) (by omega)
  simp only [Int.add_mul, Int.sub_mul, Int.mul_add, Int.mul_sub] at h1 h2 h3 h4
  omega
def Evt (p : Nat → Prop) : Prop := ∃ n, ∀ k, n ≤ k → p k
theorem Evt.of {p : Nat → Prop} (n : Nat) (h : ∀ k, n ≤ k → p k) : Evt p := ⟨n, h⟩
theorem Evt.all {p : Nat → Prop} (h : ∀ k, p k) : Evt p := ⟨0, fun k _ => h k⟩
theorem Evt.mono {p q : Nat → Prop} (h : Evt p) (hq : ∀ k, p k → q k) : Evt q := h.elim fun n hn => ⟨n, fun k hk => hq k (hn k hk)⟩
theorem Evt.and {p q : Nat → Prop} (h : Evt p) (hq : Evt q) : Evt fun k => p k ∧ q k := by
  obtain ⟨n, hn⟩ := h
  obtain ⟨m, hm⟩ := hq
  exact ⟨max n m, fun k hk => ⟨hn k (by omega), hm k (by omega)⟩⟩
theorem Evt.succ {p q : Nat → Prop} (h : Evt p) (hq : ∀ k, p k → q (k + 1)) : Evt q := by
  obtain ⟨n, hn⟩ := h
  refine ⟨n + 1, fun k hk => ?_⟩
  obtain ⟨m, rfl⟩ : ∃ m, k = m + 1 := ⟨k - 1, by omega⟩
  exact hq m (hn m (by omega))
end Go.Proofs.Ytejnbjclcdmopaa.MB
end

section
set_option linter.unusedVariables false
namespace Go.Proofs.Ytejnbjclcdmopaa.PA
open Go.RowKit Go.Proofs.YtejnbjclcdmopaaW.PrintWords Go.Proofs.YtejnbjclcdmopaaW.PrintLast Go.Proofs.YtejnbjclcdmopaaW.PrintMore Go.Proofs.Ytejnbjclcdmopaa.MB
theorem q_Clamp_eq (a lo hi : Int) : q_Clamp.f a lo hi = some (cl a lo hi) := by
  unfold q_Clamp.f cl; split
  · rfl
  · split <;> rfl
theorem q_Hold_eq (a : Int) : q_Hold.f a = some (hd a) := by unfold q_Hold.f; rw [q_Clamp_eq]; rfl
theorem q_Add_eq (a b : Int) : q_Add.f a b = some (add a b) := by
  unfold q_Add.f
  simp only [q_Hold_eq, Option.bind_some]
  have h1 := hd_bd a
  have h2 := hd_bd b
  rw [w64 (by omega) (by omega)]; rfl
theorem bits_Mul64_eq (x y : Int) (hx : 0 ≤ x ∧ x < 18446744073709551616) (hy : 0 ≤ y ∧ y < 18446744073709551616) :
    bits_Mul64.f x y = some (x * y / 18446744073709551616, x * y % 18446744073709551616) := by
  unfold bits_Mul64.f
  simp only [and32u]
  rw [mul64_parts x y (x / 4294967296) (x % 4294967296) (y / 4294967296) (y % 4294967296) (by omega) (by omega) (by omega) (by omega) (by omega) (by omega), u64w (x * y)]
theorem q_product_eq (a b : Int) (ha : -9223372036854775808 ≤ a ∧ a ≤ 9223372036854775807) (hb : -9223372036854775808 ≤ b ∧ b ≤ 9223372036854775807) :
    q_product.f a b = some ((a * b / 18446744073709551616) % 18446744073709551616, a * b % 18446744073709551616) := by
  unfold q_product.f
  simp only [u64w]
  rw [bits_Mul64_eq _ _ (by omega) (by omega)]
  simp only [Option.bind_some]
  by_cases h1 : a < 0
  · have ea : a % 18446744073709551616 = a + 18446744073709551616 := by omega
    by_cases h2 : b < 0
    · have eb : b % 18446744073709551616 = b + 18446744073709551616 := by omega
      rw [if_pos h1, if_pos h2, ea, eb]
      have e : (a + 18446744073709551616) * (b + 18446744073709551616) = a * b + a * 18446744073709551616 + b * 18446744073709551616 + 340282366920938463463374607431768211456 := by grind
      rw [e]; generalize a * b = p; congr 2 <;> omega
    · have eb : b % 18446744073709551616 = b := by omega
      rw [if_pos h1, if_neg h2, ea, eb]
      have e : (a + 18446744073709551616) * b = a * b + b * 18446744073709551616 := by grind
      rw [e]; generalize a * b = p; congr 2 <;> omega
  · have ea : a % 18446744073709551616 = a := by omega
    by_cases h2 : b < 0
    · have eb : b % 18446744073709551616 = b + 18446744073709551616 := by omega
      rw [if_neg h1, if_pos h2, ea, eb]
      have e : a * (b + 18446744073709551616) = a * b + a * 18446744073709551616 := by grind
      rw [e]; generalize a * b = p; congr 2 <;> omega
    · have eb : b % 18446744073709551616 = b := by omega
      rw [if_neg h1, if_neg h2, ea, eb]
      have hp : 0 ≤ a * b := Int.mul_nonneg (by omega) (by omega)
      have hp2 : a * b ≤ 9223372036854775807 * 9223372036854775807 := Int.mul_le_mul ha.2 hb.2 (by omega) (by omega)
      generalize a * b = p at *; congr 2; omega
theorem or48 (x y : Int) (hx : 0 ≤ x) (hy : 0 ≤ y ∧ y < 281474976710656) : Go.bits .or .u64 (IntKind.u64.wrap (x * 281474976710656)) y = (x * 281474976710656) % 18446744073709551616 + y := by
  rw [u64w]
  exact bits_join .u64 64 (by decide) (fun n h h' => by rw [u64w]; omega) 48 _ y (by omega) (by omega) (by omega) hy.1 (by omega) (by omega)
theorem q_down_eq (k : Nat) (p : Int) (hp : -1208925819614629174706176 ≤ p ∧ p ≤ 1208925819614629174706176) :
    ∃ r, q_down.f (k + 1) ((p / 18446744073709551616) % 18446744073709551616) (p % 18446744073709551616) = some r ∧ hd r = hd (p / 65536) := by
  unfold q_down.f
  rw [or48 _ _ (by omega) (by omega)]
  generalize hw : wrap64 (p / 18446744073709551616 % 18446744073709551616) = t
  have ht : t = p / 18446744073709551616 := by rw [← hw]; unfold wrap64; omega
  generalize hv : (p / 18446744073709551616 % 18446744073709551616 * 281474976710656) % 18446744073709551616 + p % 18446744073709551616 / 65536 = v
  have hv' : v = (p / 65536) % 18446744073709551616 := by rw [← hv]; omega
  clear hv hw
  have h1 : ¬ t / 65536 < -1 := by omega
  rw [if_neg h1]
  by_cases h2 : t / 65536 = -1
  · rw [if_pos h2]
    by_cases h3 : v / 9223372036854775808 = 0
    · have e : ((v / 9223372036854775808) == 0) = true := by simpa using h3
      rw [e]; simp only [q_down.j0, if_true]
      exact ⟨_, rfl, by rw [hd_lo (by omega), hd_lo (by omega)]⟩
    · have e : ((v / 9223372036854775808) == 0) = false := by simpa using h3
      rw [e]; simp only [q_down.j0]
      rw [if_neg (by decide), if_neg (by omega), if_neg (by omega)]
      exact ⟨_, rfl, by congr 1; unfold wrap64; omega⟩
  · rw [if_neg h2]; simp only [q_down.j0]
    rw [if_neg (by decide)]
    by_cases h4 : t / 65536 > 0
    · rw [if_pos h4]; exact ⟨_, rfl, by rw [hd_hi (by omega), hd_hi (by omega)]⟩
    · rw [if_neg h4, if_pos (by omega)]
      by_cases h3 : v / 9223372036854775808 = 0
      · rw [if_pos h3]; exact ⟨_, rfl, by congr 1; unfold wrap64; omega⟩
      · rw [if_neg h3]; exact ⟨_, rfl, by rw [hd_hi (by omega), hd_hi (by omega)]⟩
theorem q_Mul_eq (k : Nat) (a b : Int) : q_Mul.f (k + 1) a b = some (mul a b) := by
  unfold q_Mul.f
  simp only [q_Hold_eq, Option.bind_some]
  have h1 := hd_bd a
  have h2 := hd_bd b
  rw [q_product_eq _ _ (by omega) (by omega)]
  simp only [Option.bind_some]
  obtain ⟨r, e, h⟩ := q_down_eq k _ (prod_bd _ _ h1 h2)
  rw [e]; simp only [Option.bind_some]
  rw [h]; rfl
theorem q_Mul_ge {k : Nat} (hk : 1 ≤ k) (a b : Int) : q_Mul.f k a b = some (mul a b) := by
  obtain ⟨m, rfl⟩ : ∃ m, k = m + 1 := ⟨k - 1, by omega⟩
  exact q_Mul_eq m a b
end Go.Proofs.Ytejnbjclcdmopaa.PA
end

section
namespace Go.Proofs.Ytejnbjclcdmopaa.PA
open Go.RowKit Go.Proofs.YtejnbjclcdmopaaW.PrintWords Go.Proofs.YtejnbjclcdmopaaW.PrintLast Go.Proofs.YtejnbjclcdmopaaW.PrintMore
attribute [local go_sem] max2_int min2_int max_two min_two max_three min_three max_four min_four
attribute [local go_sem] Go.Proofs.Ytejnbjclcdmopaa.MS.isSome_setCell
set_option linter.unusedVariables false
set_option linter.unusedSimpArgs false
end Go.Proofs.Ytejnbjclcdmopaa.PA
end

section
namespace Go.Proofs.Ytejnbjclcdmopaa.PA
open Go.RowKit Go.Proofs.YtejnbjclcdmopaaW.PrintWords Go.Proofs.YtejnbjclcdmopaaW.PrintLast Go.Proofs.YtejnbjclcdmopaaW.PrintMore
attribute [local go_sem] max2_int min2_int max_two min_two max_three min_three max_four min_four
attribute [local go_sem] Go.Proofs.Ytejnbjclcdmopaa.MS.isSome_setCell
set_option linter.unusedVariables false
set_option linter.unusedSimpArgs false
end Go.Proofs.Ytejnbjclcdmopaa.PA
end

section
namespace Go.Proofs.Ytejnbjclcdmopaa.PA
open Go.RowKit Go.Proofs.YtejnbjclcdmopaaW.PrintWords Go.Proofs.YtejnbjclcdmopaaW.PrintLast Go.Proofs.YtejnbjclcdmopaaW.PrintMore
attribute [local go_sem] max2_int min2_int max_two min_two max_three min_three max_four min_four
attribute [local go_sem] Go.Proofs.Ytejnbjclcdmopaa.MS.isSome_setCell
set_option linter.unusedVariables false
set_option linter.unusedSimpArgs false
end Go.Proofs.Ytejnbjclcdmopaa.PA
end

section
namespace Go.Proofs.Ytejnbjclcdmopaa.PA
open Go.RowKit Go.Proofs.YtejnbjclcdmopaaW.PrintWords Go.Proofs.YtejnbjclcdmopaaW.PrintLast Go.Proofs.YtejnbjclcdmopaaW.PrintMore
attribute [local go_sem] max2_int min2_int max_two min_two max_three min_three max_four min_four
attribute [local go_sem] Go.Proofs.Ytejnbjclcdmopaa.MS.isSome_setCell
set_option linter.unusedVariables false
set_option linter.unusedSimpArgs false
end Go.Proofs.Ytejnbjclcdmopaa.PA
end

section
namespace Go.Proofs.Ytejnbjclcdmopaa.PA
open Go.RowKit Go.Proofs.YtejnbjclcdmopaaW.PrintWords Go.Proofs.YtejnbjclcdmopaaW.PrintLast Go.Proofs.YtejnbjclcdmopaaW.PrintMore
attribute [local go_sem] max2_int min2_int max_two min_two max_three min_three max_four min_four
attribute [local go_sem] Go.Proofs.Ytejnbjclcdmopaa.MS.isSome_setCell
set_option linter.unusedVariables false
set_option linter.unusedSimpArgs false
end Go.Proofs.Ytejnbjclcdmopaa.PA
end

section
set_option linter.unusedVariables false
namespace Go.Proofs.Ytejnbjclcdmopaa.MB
def bend (a b t : Int) : Int :=
  add (add (mul (3 * mul (mul (65536 - cl t 0 65536) (65536 - cl t 0 65536)) (cl t 0 65536)) a) (mul (3 * mul (mul (65536 - cl t 0 65536) (cl t 0 65536)) (cl t 0 65536)) b)) (mul (mul (cl t 0 65536) (cl t 0 65536)) (cl t 0 65536))
def halve : Nat → (Int → Int) → Int → Int → Int → Int
  | 0, _, _, lo, _ => lo
  | n + 1, g, x, lo, hi => if g ((lo + hi) / 2) ≤ x then halve n g x ((lo + hi) / 2) hi else halve n g x lo ((lo + hi) / 2)
def curve (x1 y1 x2 y2 x : Int) : Int := if x ≤ 0 then 0 else if x ≥ 65536 then 65536 else bend y1 y2 (halve 16 (bend x1 x2) x 0 65536)
def prt (a b t : Int) : Int := if hd t ≤ hd a then 0 else if hd t ≥ hd b then 65536 else (hd t - hd a) * 65536 / (hd b - hd a)
end Go.Proofs.Ytejnbjclcdmopaa.MB
namespace Go.Proofs.Ytejnbjclcdmopaa.PA
open Go.RowKit Go.Proofs.YtejnbjclcdmopaaW.PrintWords Go.Proofs.YtejnbjclcdmopaaW.PrintLast Go.Proofs.YtejnbjclcdmopaaW.PrintMore Go.Proofs.Ytejnbjclcdmopaa.MB
theorem ease_Bend_eq {k : Nat} (hk : 1 ≤ k) (a b t : Int) : ease_Bend.f k a b t = some (bend a b t) := by
  unfold ease_Bend.f
  have hc := cl_bd t 0 65536 (by omega)
  rw [q_Clamp_eq]
  simp only [Option.bind_some]
  rw [w64 (x := 65536 - cl t 0 65536) (by omega) (by omega)]
  simp only [q_Mul_ge hk, Option.bind_some]
  have h1 := mul_bd (mul (65536 - cl t 0 65536) (65536 - cl t 0 65536)) (cl t 0 65536)
  have h2 := mul_bd (mul (65536 - cl t 0 65536) (cl t 0 65536)) (cl t 0 65536)
  rw [w64 (by omega) (by omega), w64 (by omega) (by omega)]
  simp only [q_Add_eq, Option.bind_some]
  rfl
theorem ease_At_l0 (x1 y1 x2 y2 x : Int) : ∀ (n k : Nat) (lo hi i : Int), 0 ≤ lo → lo ≤ hi → hi ≤ 65536 → i = 16 - (n : Int) → 0 ≤ i → n + 2 ≤ k →
    ease_At.l0 k x lo hi i x1 y1 x2 y2 = some (bend y1 y2 (halve n (bend x1 x2) x lo hi)) := by
  intro n
  induction n with
  | zero =>
    intro k lo hi i h1 h2 h3 h4 h5 hk
    obtain ⟨k, rfl⟩ : ∃ m, k = m + 1 := ⟨k - 1, by omega⟩
    simp only [ease_At.l0]
    rw [if_neg (by omega), ease_Bend_eq (by omega)]
    rfl
  | succ n ih =>
    intro k lo hi i h1 h2 h3 h4 h5 hk
    obtain ⟨k, rfl⟩ : ∃ m, k = m + 1 := ⟨k - 1, by omega⟩
    simp only [ease_At.l0]
    rw [if_pos (by omega), w64 (x := lo + hi) (by omega) (by omega), ease_Bend_eq (by omega)]
    simp only [Option.bind_some, halve]
    rw [w64 (x := i + 1) (by omega) (by omega)]
    split
    · exact ih _ _ _ _ (by omega) (by omega) h3 (by omega) (by omega) (by omega)
    · exact ih _ _ _ _ h1 (by omega) (by omega) (by omega) (by omega) (by omega)
theorem ease_At_eq {k : Nat} (hk : 18 ≤ k) (x1 y1 x2 y2 x : Int) : ease_At.f k x1 y1 x2 y2 x = some (curve x1 y1 x2 y2 x) := by
  unfold ease_At.f curve
  split
  · rfl
  · split
    · rfl
    · exact ease_At_l0 x1 y1 x2 y2 x 16 k 0 65536 0 (by omega) (by omega) (by omega) (by omega) (by omega) (by omega)
theorem part_of (a b t : Int) (h1 : ¬ hd t ≤ hd a) (h2 : ¬ hd t ≥ hd b) : wrap64 (hd b - hd a) ≠ 0 ∧ wrap64 (Int.tdiv (wrap64 ((wrap64 (hd t - hd a)) * 65536)) (wrap64 (hd b - hd a))) = (hd t - hd a) * 65536 / (hd b - hd a) := by
  have ha := hd_bd a
  have hb := hd_bd b
  have ht := hd_bd t
  generalize hd a = x at *
  generalize hd b = y at *
  generalize hd t = z at *
  rw [w64 (x := y - x) (by omega) (by omega), w64 (x := z - x) (by omega) (by omega), w64 (x := (z - x) * 65536) (by omega) (by omega)]
  refine ⟨by omega, ?_⟩
  rw [Int.tdiv_eq_ediv_of_nonneg (by omega)]
  have q1 : 0 ≤ (z - x) * 65536 / (y - x) := Int.ediv_nonneg (by omega) (by omega)
  have q2 : (z - x) * 65536 / (y - x) ≤ (z - x) * 65536 := Int.ediv_le_self _ (by omega)
  exact w64 (by omega) (by omega)
theorem ease_Part_eq (a b t : Int) : ease_Part.f a b t = some (prt a b t) := by
  unfold ease_Part.f prt
  simp only [q_Hold_eq, Option.bind_some]
  by_cases h1 : hd t ≤ hd a
  · rw [if_pos h1, if_pos h1]
  · rw [if_neg h1, if_neg h1]
    by_cases h2 : hd t ≥ hd b
    · rw [if_pos h2, if_pos h2]
    · rw [if_neg h2, if_neg h2]
      obtain ⟨n, e⟩ := part_of a b t h1 h2
      rw [if_neg n, e]
theorem ease_Right_some (a b c d : Int) : ∃ r, ease_Right.f a b c d = some r := by
  have hw : ∀ x y z : Int, ∃ r, ease_Right_1.f x y z = some r := by intro x y z; unfold ease_Right_1.f; split <;> exact ⟨_, rfl⟩
  unfold ease_Right.f
  obtain ⟨r1, e1⟩ := hw a 0 65536
  obtain ⟨r2, e2⟩ := hw c 0 65536
  obtain ⟨r3, e3⟩ := hw b (-131072) 196608
  obtain ⟨r4, e4⟩ := hw d (-131072) 196608
  simp only [e1, e2, e3, e4, Option.bind_some]
  repeat (first | exact ⟨_, rfl⟩ | split)
end Go.Proofs.Ytejnbjclcdmopaa.PA
end

section
namespace Go.Proofs.Ytejnbjclcdmopaa.PA
open Go.RowKit Go.Proofs.YtejnbjclcdmopaaW.PrintWords Go.Proofs.YtejnbjclcdmopaaW.PrintLast Go.Proofs.YtejnbjclcdmopaaW.PrintMore
attribute [local go_sem] max2_int min2_int max_two min_two max_three min_three max_four min_four
attribute [local go_sem] Go.Proofs.Ytejnbjclcdmopaa.MS.isSome_setCell
set_option linter.unusedVariables false
set_option linter.unusedSimpArgs false
end Go.Proofs.Ytejnbjclcdmopaa.PA
end

section
namespace Go.Proofs.Ytejnbjclcdmopaa.PA
open Go.RowKit Go.Proofs.YtejnbjclcdmopaaW.PrintWords Go.Proofs.YtejnbjclcdmopaaW.PrintLast Go.Proofs.YtejnbjclcdmopaaW.PrintMore
attribute [local go_sem] max2_int min2_int max_two min_two max_three min_three max_four min_four
attribute [local go_sem] Go.Proofs.Ytejnbjclcdmopaa.MS.isSome_setCell
set_option linter.unusedVariables false
set_option linter.unusedSimpArgs false
end Go.Proofs.Ytejnbjclcdmopaa.PA
end

section
namespace Go.Proofs.Ytejnbjclcdmopaa.PA
open Go.RowKit Go.Proofs.YtejnbjclcdmopaaW.PrintWords Go.Proofs.YtejnbjclcdmopaaW.PrintLast Go.Proofs.YtejnbjclcdmopaaW.PrintMore
attribute [local go_sem] max2_int min2_int max_two min_two max_three min_three max_four min_four
attribute [local go_sem] Go.Proofs.Ytejnbjclcdmopaa.MS.isSome_setCell
set_option linter.unusedVariables false
set_option linter.unusedSimpArgs false
end Go.Proofs.Ytejnbjclcdmopaa.PA
end

section
namespace Go.Proofs.Ytejnbjclcdmopaa.PA
open Go.RowKit Go.Proofs.YtejnbjclcdmopaaW.PrintWords Go.Proofs.YtejnbjclcdmopaaW.PrintLast Go.Proofs.YtejnbjclcdmopaaW.PrintMore
attribute [local go_sem] max2_int min2_int max_two min_two max_three min_three max_four min_four
attribute [local go_sem] Go.Proofs.Ytejnbjclcdmopaa.MS.isSome_setCell
set_option linter.unusedVariables false
set_option linter.unusedSimpArgs false
def IsS41 (w0 W : World) (g : Nat) (f0 : List Int) (f1 : Int) : Prop := ∃ A0 c0, W.heap[g]? = some (.cells #[.slice A0 f0.length c0, .int .i64 f1] 41 (0, 0)) ∧ w0.heap.size ≤ g ∧ Kd.C (Kd.int .i64) w0 A0 f0.length f0
theorem IsS41.grown {w0 W : World} {g : Nat} {f0 : List Int} {f1 : Int} {W1 : World} {row : Option Nat} (h : IsS41 w0 W g f0 f1) (hw : W.grownBy W1 row) (hne : some g ≠ row) : IsS41 w0 W1 g f0 f1 := by
 obtain ⟨A0, c0, hb, hg, hr0⟩ := h
 exact ⟨A0, c0, blk_grown hb hw hne, hg, hr0⟩
theorem IsS41.kept {w0 W : World} {g : Nat} {f0 : List Int} {f1 : Int} {W1 : World} {S : Nat → Prop} (h : IsS41 w0 W g f0 f1) (hk : Kept W W1 S) (hne : ¬ S g) : IsS41 w0 W1 g f0 f1 := by
 obtain ⟨A0, c0, hb, hg, hr0⟩ := h
 exact ⟨A0, c0, blk_kept hb hk hne, hg, hr0⟩
theorem IsS41.below {w0 W : World} {g : Nat} {f0 : List Int} {f1 : Int} {W1 : World} (h : IsS41 w0 W g f0 f1) (hw : Below W.heap.size W W1) : IsS41 w0 W1 g f0 f1 := h.grown (grown_of_below hw none) (by simp)
theorem IsS41.alloc {w0 W : World} {g : Nat} {f0 : List Int} {f1 : Int} (h : IsS41 w0 W g f0 f1) (o : Obj) : IsS41 w0 (W.alloc o) g f0 f1 := h.below (below_alloc (Below.refl _ _) o)
theorem IsS41.drewN {w0 W : World} {g : Nat} {f0 : List Int} {f1 : Int} (h : IsS41 w0 W g f0 f1) (m : Nat) : IsS41 w0 (W.drewN m) g f0 f1 := h
theorem IsS41.drew {w0 W : World} {g : Nat} {f0 : List Int} {f1 : Int} (h : IsS41 w0 W g f0 f1) : IsS41 w0 W.drew g f0 f1 := h
theorem IsS41.at_ {w0 W : World} {g : Nat} {f0 : List Int} {f1 : Int} {w' : World} {m : Nat} (hq : W.drewN m = w') (h : IsS41 w0 W g f0 f1) : IsS41 w0 w' g f0 f1 := by subst hq; exact IsS41.drewN h m
theorem IsS41.apart {w0 W : World} {g : Nat} {f0 : List Int} {f1 : Int} {α : Type} {d : Kd α} {e : Nat} {base : Nat} {ok : Nat → Prop} {v : Value} {xs : List α} (h : IsS41 w0 W g f0 f1) (ho : d.R e W base ok v xs) (ht : ∀ q, q ∈ e :: d.E → q ≠ 41) : d.R e W base (fun k => ok k ∧ k ≠ g) v xs := by
 obtain ⟨A0, c0, hb, hg, hr0⟩ := h
 exact Kd.R_types ho hb ht
end Go.Proofs.Ytejnbjclcdmopaa.PA
end

section
namespace Go.Proofs.Ytejnbjclcdmopaa.PA
open Go.RowKit Go.Proofs.YtejnbjclcdmopaaW.PrintWords Go.Proofs.YtejnbjclcdmopaaW.PrintLast Go.Proofs.YtejnbjclcdmopaaW.PrintMore
attribute [local go_sem] max2_int min2_int max_two min_two max_three min_three max_four min_four
attribute [local go_sem] Go.Proofs.Ytejnbjclcdmopaa.MS.isSome_setCell
set_option linter.unusedVariables false
set_option linter.unusedSimpArgs false
end Go.Proofs.Ytejnbjclcdmopaa.PA
end

section
namespace Go.Proofs.Ytejnbjclcdmopaa.PA
open Go.RowKit Go.Proofs.YtejnbjclcdmopaaW.PrintWords Go.Proofs.YtejnbjclcdmopaaW.PrintLast Go.Proofs.YtejnbjclcdmopaaW.PrintMore
attribute [local go_sem] max2_int min2_int max_two min_two max_three min_three max_four min_four
attribute [local go_sem] Go.Proofs.Ytejnbjclcdmopaa.MS.isSome_setCell
set_option linter.unusedVariables false
set_option linter.unusedSimpArgs false
attribute [local go_sem high] eqA23
end Go.Proofs.Ytejnbjclcdmopaa.PA
end

section
namespace Go.Proofs.Ytejnbjclcdmopaa.PA
open Go.RowKit Go.Proofs.YtejnbjclcdmopaaW.PrintWords Go.Proofs.YtejnbjclcdmopaaW.PrintLast Go.Proofs.YtejnbjclcdmopaaW.PrintMore
attribute [local go_sem] max2_int min2_int max_two min_two max_three min_three max_four min_four
attribute [local go_sem] Go.Proofs.Ytejnbjclcdmopaa.MS.isSome_setCell
set_option linter.unusedVariables false
set_option linter.unusedSimpArgs false
end Go.Proofs.Ytejnbjclcdmopaa.PA
end

section
namespace Go.Proofs.Ytejnbjclcdmopaa.PA
open Go.RowKit Go.Proofs.YtejnbjclcdmopaaW.PrintWords Go.Proofs.YtejnbjclcdmopaaW.PrintLast Go.Proofs.YtejnbjclcdmopaaW.PrintMore
attribute [local go_sem] max2_int min2_int max_two min_two max_three min_three max_four min_four
attribute [local go_sem] Go.Proofs.Ytejnbjclcdmopaa.MS.isSome_setCell
set_option linter.unusedVariables false
set_option linter.unusedSimpArgs false
end Go.Proofs.Ytejnbjclcdmopaa.PA
end

section
namespace Go.Proofs.Ytejnbjclcdmopaa.PA
open Go.RowKit Go.Proofs.YtejnbjclcdmopaaW.PrintWords Go.Proofs.YtejnbjclcdmopaaW.PrintLast Go.Proofs.YtejnbjclcdmopaaW.PrintMore
attribute [local go_sem] max2_int min2_int max_two min_two max_three min_three max_four min_four
attribute [local go_sem] Go.Proofs.Ytejnbjclcdmopaa.MS.isSome_setCell
set_option linter.unusedVariables false
set_option linter.unusedSimpArgs false
end Go.Proofs.Ytejnbjclcdmopaa.PA
end

section
set_option linter.unusedVariables false
namespace Go.Proofs.Ytejnbjclcdmopaa.PA
open Go.RowKit Go.Proofs.YtejnbjclcdmopaaW.PrintWords Go.Proofs.YtejnbjclcdmopaaW.PrintLast Go.Proofs.YtejnbjclcdmopaaW.PrintMore Go.Proofs.Ytejnbjclcdmopaa.MB
def fnd (l : List S34) (t : Int) : Nat → Int
  | 0 => -1
  | n + 1 => if (rd_T34 l n).f0 ≤ t then n else fnd l t n
def goes (how x1 y1 x2 y2 p : Int) : Int := if how = 0 then (if p ≥ 65536 then 65536 else 0) else if how = 1 then p else if how = 2 then curve x1 y1 x2 y2 p else 0
def mid (a b t : Int) : Int := add (hd a) (mul (add b (-(hd a))) t)
def kat (l : List S34) (t none : Int) : Int :=
  if (l.length : Int) = 0 then none else
  if fnd l t l.length = -1 then (rd_T34 l 0).f1 else
  if fnd l t l.length = (l.length : Int) - 1 then (rd_T34 l (fnd l t l.length)).f1 else
  mid (rd_T34 l (fnd l t l.length)).f1 (rd_T34 l (fnd l t l.length + 1)).f1
    (goes (rd_T34 l (fnd l t l.length)).f2 (rd_T34 l (fnd l t l.length)).f3.f0 (rd_T34 l (fnd l t l.length)).f3.f1 (rd_T34 l (fnd l t l.length)).f3.f2 (rd_T34 l (fnd l t l.length)).f3.f3
      (prt (rd_T34 l (fnd l t l.length)).f0 (rd_T34 l (fnd l t l.length + 1)).f0 t))
theorem fnd_bd (l : List S34) (t : Int) : ∀ n : Nat, -1 ≤ fnd l t n ∧ fnd l t n < (n : Int) := by
  intro n
  induction n with
  | zero => simp only [fnd]; omega
  | succ n ih => simp only [fnd]; split <;> omega
theorem key_Find_l0 (l : List S34) (t : Int) (hl : (l.length : Int) < 140737488355328) : ∀ (n k : Nat), n ≤ l.length → n + 1 ≤ k → key_Find.l0 k l t ((n : Int) - 1) = some (fnd l t n) := by
  intro n
  induction n with
  | zero =>
    intro k hn hk
    obtain ⟨k, rfl⟩ : ∃ m, k = m + 1 := ⟨k - 1, by omega⟩
    simp only [key_Find.l0]; rw [if_neg (by omega)]; rfl
  | succ n ih =>
    intro k hn hk
    obtain ⟨k, rfl⟩ : ∃ m, k = m + 1 := ⟨k - 1, by omega⟩
    have e : ((n + 1 : Nat) : Int) - 1 = (n : Int) := by omega
    simp only [key_Find.l0, fnd]
    rw [e, if_pos (by omega), if_pos (by omega), if_pos (by omega), w64 (by omega) (by omega), ih k (by omega) (by omega)]
    split <;> rfl
theorem key_Find_eq (l : List S34) (t : Int) (hl : (l.length : Int) < 140737488355328) {k : Nat} (hk : l.length + 1 ≤ k) : key_Find.f k l t = some (fnd l t l.length) := by
  unfold key_Find.f
  rw [w64 (by omega) (by omega)]
  exact key_Find_l0 l t hl l.length k (Nat.le_refl _) hk
theorem key_Goes_eq {k : Nat} (hk : 19 ≤ k) (how x1 y1 x2 y2 p : Int) : key_Goes.f k how x1 y1 x2 y2 p = some (goes how x1 y1 x2 y2 p) := by
  obtain ⟨k, rfl⟩ : ∃ m, k = m + 1 := ⟨k - 1, by omega⟩
  have hj : ∀ b, key_Goes.j0 (k + 1) how p b x1 y1 x2 y2 = some (if b = true then 65536 else if how = 1 then p else if how = 2 then curve x1 y1 x2 y2 p else 0) := by
    intro b
    simp only [key_Goes.j0, ease_At_eq (show 18 ≤ k by omega), Option.bind_some]
    repeat (first | rfl | split)
  unfold key_Goes.f goes
  rw [hj, hj]
  by_cases h : how = 0
  · rw [if_pos h, if_pos h]
    by_cases h2 : p ≥ 65536
    · rw [decide_eq_true h2, if_pos rfl, if_pos h2]
    · rw [decide_eq_false h2, if_neg (by decide), if_neg h2, if_neg (by omega), if_neg (by omega)]
  · rw [if_neg h, if_neg h, if_neg (by decide)]
theorem q_Mid_eq {k : Nat} (hk : 1 ≤ k) (a b t : Int) : q_Mid.f k a b t = some (mid a b t) := by
  unfold q_Mid.f
  have h := hd_bd a
  simp only [q_Hold_eq, Option.bind_some]
  rw [w64 (by omega) (by omega)]
  simp only [q_Add_eq, q_Mul_ge hk, Option.bind_some]
  have e : hd (hd a) = hd a := hd_of h.1 h.2
  unfold mid add
  rw [e]
theorem key_At_eq (l : List S34) (t none : Int) (hl : (l.length : Int) < 140737488355328) {k : Nat} (hk : l.length + 22 ≤ k) : key_At.f k l t none = some (kat l t none) := by
  unfold key_At.f kat
  have hb := fnd_bd l t l.length
  by_cases h0 : (l.length : Int) = 0
  · rw [if_pos h0, if_pos h0]
  · rw [if_neg h0, if_neg h0, key_Find_eq l t hl (by omega)]
    simp only [Option.bind_some]
    generalize fnd l t l.length = i at *
    by_cases h1 : i = -1
    · rw [if_pos h1, if_pos h1, if_pos (by omega)]
    · rw [if_neg h1, if_neg h1, w64 (x := (l.length : Int) - 1) (by omega) (by omega)]
      by_cases h2 : i = (l.length : Int) - 1
      · rw [if_pos h2, if_pos h2, if_pos (by omega), if_pos (by omega)]
      · rw [if_neg h2, if_neg h2, if_pos (by omega), if_pos (by omega), w64 (x := i + 1) (by omega) (by omega), if_pos (by omega), if_pos (by omega)]
        simp only [ease_Part_eq, Option.bind_some, key_Goes_eq (show 19 ≤ k by omega), q_Mid_eq (show 1 ≤ k by omega)]
def way (how x1 y1 x2 y2 : Int) : Bool := if how = 2 then (ease_Right.f x1 y1 x2 y2).getD false else if how = 0 ∨ how = 1 then (x1 == 0 && (y1 == 0 && (x2 == 0 && (y2 == 0)))) else false
def stp (i ahead t how x1 y1 x2 y2 : Int) : Bool := decide (-1073741824 ≤ t) && (decide (t ≤ 1073741824) && (decide (i > 0 → ahead < t) && way how x1 y1 x2 y2))
theorem key_Step_eq {k : Nat} (hk : 1 ≤ k) (i ahead t how x1 y1 x2 y2 : Int) : key_Step.f k i ahead t how x1 y1 x2 y2 = some (stp i ahead t how x1 y1 x2 y2) := by
  obtain ⟨k, rfl⟩ : ∃ m, k = m + 1 := ⟨k - 1, by omega⟩
  obtain ⟨r, hr⟩ := ease_Right_some x1 y1 x2 y2
  have hj : ∀ b, key_Step.j0 (k + 1) how b x1 y1 x2 y2 = some (!b && way how x1 y1 x2 y2) := by
    intro b
    simp only [key_Step.j0, hr, Option.bind_some, way, Option.getD_some]
    cases b
    · rw [if_neg (by decide)]
      by_cases h2 : how = 2
      · rw [if_pos h2, if_pos h2]; rfl
      · rw [if_neg h2, if_neg h2]
        by_cases h0 : how = 0
        · rw [if_pos h0, if_pos (.inl h0)]; rfl
        · rw [if_neg h0]
          by_cases h1 : how = 1
          · rw [if_pos h1, if_pos (.inr h1)]; rfl
          · rw [if_neg h1, if_neg (by omega)]; rfl
    · rw [if_pos rfl]; rfl
  unfold key_Step.f stp
  simp only [hj]
  by_cases c1 : t < -1073741824
  · rw [if_pos c1, decide_eq_false (show ¬ -1073741824 ≤ t by omega)]; rfl
  · rw [if_neg c1, decide_eq_true (show -1073741824 ≤ t by omega)]
    by_cases c2 : t > 1073741824
    · rw [if_pos c2, decide_eq_false (show ¬ t ≤ 1073741824 by omega)]; rfl
    · rw [if_neg c2, decide_eq_true (show t ≤ 1073741824 by omega)]
      by_cases c3 : i > 0
      · rw [if_pos c3]
        by_cases c4 : t ≤ ahead
        · rw [decide_eq_true c4, decide_eq_false (show ¬ (i > 0 → ahead < t) from fun h => by have := h c3; omega)]; rfl
        · rw [decide_eq_false c4, decide_eq_true (show (i > 0 → ahead < t) from fun _ => by omega)]; rfl
      · rw [if_neg c3, decide_eq_true (show (i > 0 → ahead < t) from fun h => absurd h c3)]; rfl
def kok (l : List S34) (i : Int) : Bool :=
  stp i (rd_T34 l (i - 1)).f0 (rd_T34 l i).f0 (rd_T34 l i).f2 (rd_T34 l i).f3.f0 (rd_T34 l i).f3.f1 (rd_T34 l i).f3.f2 (rd_T34 l i).f3.f3 &&
    (decide (-67108864 ≤ (rd_T34 l i).f1) && decide ((rd_T34 l i).f1 ≤ 67108864))
def krt (l : List S34) : Nat → Int → Bool
  | 0, _ => decide ((l.length : Int) ≤ 32)
  | d + 1, i => kok l i && krt l d (i + 1)
theorem key_Right_l0 (l : List S34) (hl : (l.length : Int) < 140737488355328) : ∀ (d k : Nat) (i ahead : Int), 0 ≤ i → i + d = (l.length : Int) → (i > 0 → ahead = (rd_T34 l (i - 1)).f0) → d + 2 ≤ k →
    key_Right.l0 k l ahead l (l.length : Int) i = some (krt l d i) := by
  intro d
  induction d with
  | zero =>
    intro k i ahead h0 hi ha hk
    obtain ⟨k, rfl⟩ : ∃ m, k = m + 1 := ⟨k - 1, by omega⟩
    simp only [key_Right.l0, krt]; rw [if_neg (by omega)]
  | succ d ih =>
    intro k i ahead h0 hi ha hk
    obtain ⟨k, rfl⟩ : ∃ m, k = m + 1 := ⟨k - 1, by omega⟩
    simp only [key_Right.l0, krt]
    rw [if_pos (by omega), if_pos h0, if_pos (by omega), key_Step_eq (by omega), w64 (by omega) (by omega), ih k (i + 1) _ (by omega) (by omega) (fun _ => by rw [show i + 1 - 1 = i by omega]) (by omega)]
    simp only [Option.bind_some]
    have e : stp i ahead (rd_T34 l i).f0 (rd_T34 l i).f2 (rd_T34 l i).f3.f0 (rd_T34 l i).f3.f1 (rd_T34 l i).f3.f2 (rd_T34 l i).f3.f3 = stp i (rd_T34 l (i - 1)).f0 (rd_T34 l i).f0 (rd_T34 l i).f2 (rd_T34 l i).f3.f0 (rd_T34 l i).f3.f1 (rd_T34 l i).f3.f2 (rd_T34 l i).f3.f3 := by
      by_cases hp : i > 0
      · rw [ha hp]
      · unfold stp
        rw [decide_eq_true (show (i > 0 → ahead < (rd_T34 l i).f0) from fun h => absurd h hp), decide_eq_true (show (i > 0 → (rd_T34 l (i - 1)).f0 < (rd_T34 l i).f0) from fun h => absurd h hp)]
    rw [e]
    unfold kok
    cases stp i (rd_T34 l (i - 1)).f0 (rd_T34 l i).f0 (rd_T34 l i).f2 (rd_T34 l i).f3.f0 (rd_T34 l i).f3.f1 (rd_T34 l i).f3.f2 (rd_T34 l i).f3.f3
    · rw [if_neg (by decide)]; rfl
    · rw [if_pos rfl, Bool.true_and]
      by_cases c1 : (rd_T34 l i).f1 < -67108864
      · rw [if_pos c1, decide_eq_false (show ¬ -67108864 ≤ (rd_T34 l i).f1 by omega)]; rfl
      · rw [if_neg c1, decide_eq_true (show -67108864 ≤ (rd_T34 l i).f1 by omega)]
        by_cases c2 : (rd_T34 l i).f1 > 67108864
        · rw [if_pos c2, decide_eq_false (show ¬ (rd_T34 l i).f1 ≤ 67108864 by omega)]; rfl
        · rw [if_neg c2, decide_eq_true (show (rd_T34 l i).f1 ≤ 67108864 by omega)]; rfl
theorem key_Right_eq (l : List S34) (hl : (l.length : Int) < 140737488355328) {k : Nat} (hk : l.length + 2 ≤ k) : key_Right.f k l = some (krt l l.length 0) := by
  unfold key_Right.f
  exact key_Right_l0 l hl l.length k 0 0 (by omega) (by omega) (fun h => absurd h (by omega)) hk
end Go.Proofs.Ytejnbjclcdmopaa.PA
end

section
namespace Go.Proofs.Ytejnbjclcdmopaa.PA
open Go.RowKit Go.Proofs.YtejnbjclcdmopaaW.PrintWords Go.Proofs.YtejnbjclcdmopaaW.PrintLast Go.Proofs.YtejnbjclcdmopaaW.PrintMore
attribute [local go_sem] max2_int min2_int max_two min_two max_three min_three max_four min_four
attribute [local go_sem] Go.Proofs.Ytejnbjclcdmopaa.MS.isSome_setCell
set_option linter.unusedVariables false
set_option linter.unusedSimpArgs false
end Go.Proofs.Ytejnbjclcdmopaa.PA
end

section
set_option linter.unusedVariables false
namespace Go.Proofs.Ytejnbjclcdmopaa.PA
open Go.RowKit Go.Proofs.YtejnbjclcdmopaaW.PrintWords Go.Proofs.YtejnbjclcdmopaaW.PrintLast Go.Proofs.YtejnbjclcdmopaaW.PrintMore Go.Proofs.Ytejnbjclcdmopaa.MB
theorem known5 {k : Nat} (hk : 24 ≤ k) : mutoscopelaw5_known.f k = some true := by
  unfold mutoscopelaw5_known.f
  simp only [Option.bind_some]
  have h2 : (([(⟨0, 0, 1, (⟨0, 0, 0, 0⟩ : S23)⟩ : S34), (⟨10, 10, 0, (⟨0, 0, 0, 0⟩ : S23)⟩ : S34)] : List (S34)).length : Int) < 140737488355328 := by decide
  have h2' : (([(⟨1, 0, 0, (⟨0, 0, 0, 0⟩ : S23)⟩ : S34), (⟨1, 0, 0, (⟨0, 0, 0, 0⟩ : S23)⟩ : S34)] : List (S34)).length : Int) < 140737488355328 := by decide
  rw [key_At_eq _ _ _ h2 hk, key_At_eq _ _ _ (by decide) (show ([] : List S34).length + 22 ≤ k from by simpa using (by omega : 22 ≤ k)), key_Find_eq _ _ h2 (show 3 ≤ k by omega), key_Find_eq _ _ h2 (show 3 ≤ k by omega), key_Right_eq _ h2 (show 4 ≤ k by omega), key_Right_eq _ h2' (show 4 ≤ k by omega)]
  simp only [Option.bind_some]
  rw [if_pos (by decide +kernel), if_pos (by decide +kernel), if_pos (by decide +kernel), if_pos (by decide +kernel), if_pos (by decide +kernel)]
  decide +kernel
end Go.Proofs.Ytejnbjclcdmopaa.PA
end

section
set_option linter.unusedVariables false
namespace Go.Proofs.Ytejnbjclcdmopaa.MB
def midv (a b t : Int) : Int := add (hd a) (mul (add b (-(hd a))) t)
theorem prt_bd (a b t : Int) : 0 ≤ prt a b t ∧ prt a b t ≤ 65536 := by
  unfold prt
  by_cases h1 : hd t ≤ hd a
  · rw [if_pos h1]; omega
  · rw [if_neg h1]
    by_cases h2 : hd t ≥ hd b
    · rw [if_pos h2]; omega
    · rw [if_neg h2]
      generalize hd t = t at *
      generalize hd a = a at *
      generalize hd b = b at *
      have p : 0 < b - a := by omega
      have h3 := Int.mul_lt_mul_of_pos_right (show t - a < b - a by omega) (show (0 : Int) < 65536 by decide)
      exact ⟨Int.ediv_nonneg (by omega) (by omega), Int.le_of_lt_add_one (Int.ediv_lt_of_lt_mul p (by omega))⟩
theorem prt_self (a b : Int) : prt a b a = 0 := by unfold prt; rw [if_pos (Int.le_refl _)]
theorem mul_part {d p : Int} (hd1 : -4294967296 ≤ d) (hd2 : d ≤ 4294967296) (hp : 0 ≤ p) (hp' : p ≤ 65536) : mul d p = d * p / 65536 ∧ (0 ≤ d → 0 ≤ mul d p ∧ mul d p ≤ d) ∧ (d ≤ 0 → d ≤ mul d p ∧ mul d p ≤ 0) := by
  have e : mul d p = hd (d * p / 65536) := by unfold mul; rw [hd_of (a := d) (by omega) (by omega), hd_of (a := p) (by omega) (by omega)]
  by_cases h : 0 ≤ d
  · have h1 := Int.mul_nonneg h hp
    have h2 := Int.mul_le_mul_of_nonneg_left hp' h
    have e2 : mul d p = d * p / 65536 := by rw [e]; exact hd_of (by omega) (by omega)
    refine ⟨e2, fun _ => ?_, fun h' => ?_⟩ <;> rw [e2]
    · omega
    · have : d = 0 := by omega
      subst this; simp
  · have h1 := Int.mul_nonneg (show 0 ≤ -d by omega) hp
    have h2 := Int.mul_le_mul_of_nonneg_left hp' (show 0 ≤ -d by omega)
    rw [Int.neg_mul] at h1 h2
    rw [Int.neg_mul] at h2
    have e2 : mul d p = d * p / 65536 := by rw [e]; exact hd_of (by omega) (by omega)
    refine ⟨e2, fun h' => absurd h' h, fun _ => ?_⟩; rw [e2]; omega
theorem midv_eq {a b p : Int} (ha : -2147483648 ≤ a ∧ a ≤ 2147483648) (hb : -2147483648 ≤ b ∧ b ≤ 2147483648) (hp : 0 ≤ p) (hp' : p ≤ 65536) : midv a b p = a + (b - a) * p / 65536 := by
  unfold midv
  rw [hd_of (a := a) (by omega) (by omega)]
  have e1 : add b (-a) = b - a := by unfold add; rw [hd_of (a := b) (by omega) (by omega), hd_of (a := -a) (by omega) (by omega)]; rw [hd_of (by omega) (by omega)]; omega
  rw [e1]
  obtain ⟨m1, m2, m3⟩ := mul_part (d := b - a) (by omega) (by omega) hp hp'
  have m4 : mul (b - a) p ≤ 4294967296 ∧ -4294967296 ≤ mul (b - a) p := by
    by_cases h : 0 ≤ b - a
    · have := m2 h; omega
    · have := m3 (by omega); omega
  rw [← m1]
  unfold add
  rw [hd_of (a := a) (by omega) (by omega), hd_of (a := mul (b - a) p) (by omega) (by omega), hd_of (by omega) (by omega)]
theorem midv_between {a b p : Int} (ha : -2147483648 ≤ a ∧ a ≤ 2147483648) (hb : -2147483648 ≤ b ∧ b ≤ 2147483648) (hp : 0 ≤ p) (hp' : p ≤ 65536) :
    (a ≤ b → a ≤ midv a b p ∧ midv a b p ≤ b) ∧ (b ≤ a → b ≤ midv a b p ∧ midv a b p ≤ a) := by
  rw [midv_eq ha hb hp hp']
  obtain ⟨m1, m2, m3⟩ := mul_part (d := b - a) (by omega) (by omega) hp hp'
  rw [← m1]
  exact ⟨fun h => by have := m2 (by omega); omega, fun h => by have := m3 (by omega); omega⟩
theorem midv_0 {a : Int} (b : Int) (ha : -1099511627776 ≤ a ∧ a ≤ 1099511627776) : midv a b 0 = a := by
  unfold midv
  have e : ∀ x, mul x 0 = 0 := fun x => by unfold mul; rw [show hd 0 = 0 from hd_of (by decide) (by decide), Int.mul_zero]; exact hd_of (by decide) (by decide)
  rw [e, hd_of ha.1 ha.2]
  unfold add
  rw [hd_of ha.1 ha.2, show hd 0 = 0 from hd_of (by decide) (by decide), Int.add_zero, hd_of ha.1 ha.2]
end Go.Proofs.Ytejnbjclcdmopaa.MB
end

section
set_option linter.unusedVariables false
namespace Go.Proofs.Ytejnbjclcdmopaa.PA
open Go.RowKit Go.Proofs.YtejnbjclcdmopaaW.PrintWords Go.Proofs.YtejnbjclcdmopaaW.PrintLast Go.Proofs.YtejnbjclcdmopaaW.PrintMore Go.Proofs.Ytejnbjclcdmopaa.MB
def kg (x : S34) : Prop := (-67108864 < x.f1 ∧ x.f1 < 67108864) ∧ (0 ≤ x.f2 ∧ x.f2 ≤ 2)
structure Ris (r : List S34) (at_ : Int) : Prop where
  good : ∀ j : Nat, j < r.length → kg (r.getD j z34) ∧ -5 < (r.getD j z34).f0 ∧ (r.getD j z34).f0 ≤ at_
  rise : ∀ i j : Nat, i < j → j < r.length → (r.getD i z34).f0 < (r.getD j z34).f0
  top : at_ ≤ 8 * (r.length : Int) - 5
  low : -5 ≤ at_
theorem Ris.snoc {r : List S34} {at_ : Int} (h : Ris r at_) (x : S34) (hx : kg x) (h1 : at_ < x.f0) (h2 : x.f0 ≤ at_ + 8) : Ris (r ++ [x]) x.f0 := by
  have hl := h.low
  have ht := h.top
  have g1 : ∀ j : Nat, j < r.length → (r ++ [x]).getD j z34 = r.getD j z34 := fun j hj => by
    simp [List.getD, List.getElem?_append_left hj]
  have g2 : (r ++ [x]).getD r.length z34 = x := by simp [List.getD]
  refine ⟨fun j hj => ?_, fun i j hij hj => ?_, by simp only [List.length_append, List.length_singleton]; omega, by omega⟩
  · rw [List.length_append, List.length_singleton] at hj
    by_cases c : j < r.length
    · rw [g1 j c]; have := h.good j c; exact ⟨this.1, this.2.1, by omega⟩
    · rw [show j = r.length by omega, g2]; exact ⟨hx, by omega, Int.le_refl _⟩
  · rw [List.length_append, List.length_singleton] at hj
    by_cases c : j < r.length
    · rw [g1 j c, g1 i (by omega)]; exact h.rise i j hij c
    · rw [show j = r.length by omega, g2, g1 i (by omega)]; have := (h.good i (by omega)).2.2; omega
theorem and2 (a : Int) : bits .and .i64 a 3 = a % 4 := and_low .i64 2 (by decide) (fun n h h' => by rw [IntKind.wrap_i64]; omega) a
theorem and3 (a : Int) : bits .and .i64 a 7 = a % 8 := and_low .i64 3 (by decide) (fun n h h' => by rw [IntKind.wrap_i64]; omega) a
theorem rising_l0 (l : List S34) : ∀ (d : Nat) (r : List S34) (at_ i : Int), 0 ≤ i → i = (r.length : Int) → i + d = 40 → Ris r at_ →
    ∃ r' at', Evt (fun k => mutoscopelaw5_rising.l0 k l r at_ i = some r') ∧ r'.length ≤ 40 ∧ Ris r' at' := by
  intro d
  induction d with
  | zero =>
    intro r at_ i h0 hi hd hr
    refine ⟨r, at_, ((Evt.all (p := fun _ => True) fun _ => trivial).succ (q := fun k => mutoscopelaw5_rising.j1 k l r at_ i false = some r) fun k _ => by simp [mutoscopelaw5_rising.j1]).succ fun k h => ?_, by omega, hr⟩
    simp only [mutoscopelaw5_rising.l0]
    split
    · rw [decide_eq_false (by omega)]; exact h
    · exact h
  | succ d ih =>
    intro r at_ i h0 hi hd hr
    by_cases c : i < (l.length : Int)
    · have hm : -67108864 < Int.tmod (rd_T34 l i).f1 67108864 ∧ Int.tmod (rd_T34 l i).f1 67108864 < 67108864 :=
        ⟨by have := Int.lt_tmod_of_pos (rd_T34 l i).f1 (show (0 : Int) < 67108864 by decide); omega, Int.tmod_lt_of_pos _ (by decide)⟩
      have hlo := hr.low
      have hto := hr.top
      have ht : wrap64 ((wrap64 (at_ + 1)) + (Go.bits .and .i64 ((rd_T34 l i).f0) 7)) = at_ + 1 + (rd_T34 l i).f0 % 8 := by
        rw [and3, w64 (x := at_ + 1) (by omega) (by omega), w64 (by omega) (by omega)]
      have step : ∀ e : S23, kg (⟨wrap64 ((wrap64 (at_ + 1)) + (Go.bits .and .i64 ((rd_T34 l i).f0) 7)), Int.tmod ((rd_T34 l i).f1) 67108864, Int.tmod (Go.bits .and .i64 (Int.tmod ((rd_T34 l i).f1) 67108864) 3) 3, e⟩ : S34) := by
        intro e
        refine ⟨hm, ?_⟩
        show 0 ≤ Int.tmod (Go.bits .and .i64 (Int.tmod ((rd_T34 l i).f1) 67108864) 3) 3 ∧ Int.tmod (Go.bits .and .i64 (Int.tmod ((rd_T34 l i).f1) 67108864) 3) 3 ≤ (2 : Int)
        rw [and2, Int.tmod_eq_emod_of_nonneg (by omega)]; omega
      have nxt : ∀ e : S23, ∃ r' at', Evt (fun k => mutoscopelaw5_rising.l0 k l (r ++ [(⟨wrap64 ((wrap64 (at_ + 1)) + (Go.bits .and .i64 ((rd_T34 l i).f0) 7)), Int.tmod ((rd_T34 l i).f1) 67108864, Int.tmod (Go.bits .and .i64 (Int.tmod ((rd_T34 l i).f1) 67108864) 3) 3, e⟩ : S34)]) (wrap64 ((wrap64 (at_ + 1)) + (Go.bits .and .i64 ((rd_T34 l i).f0) 7))) (wrap64 (i + 1)) = some r') ∧ r'.length ≤ 40 ∧ Ris r' at' := by
        intro e
        have hs := hr.snoc _ (step e) (by show at_ < wrap64 _; rw [ht]; omega) (by show wrap64 _ ≤ at_ + 8; rw [ht]; omega)
        exact ih _ _ _ (by rw [w64 (by omega) (by omega)]; omega) (by rw [w64 (by omega) (by omega), List.length_append, List.length_singleton]; omega) (by rw [w64 (by omega) (by omega)]; omega) hs
      by_cases c2 : Int.tmod (Go.bits .and .i64 (Int.tmod ((rd_T34 l i).f1) 67108864) 3) 3 = 2
      · obtain ⟨r', at', he, hl', hr'⟩ := nxt (⟨Go.bits .and .i64 ((rd_T34 l i).f3.f0) 65535, Int.tmod ((rd_T34 l i).f3.f1) 65536, Go.bits .and .i64 ((rd_T34 l i).f3.f2) 65535, Int.tmod ((rd_T34 l i).f3.f3) 65536⟩ : S23)
        refine ⟨r', at', (he.succ (q := fun k => mutoscopelaw5_rising.j1 k l r at_ i true = some r') fun k h => ?_).succ fun k h => ?_, hl', hr'⟩
        · simp only [mutoscopelaw5_rising.j1]
          rw [if_pos trivial, if_pos h0, if_pos c, if_pos c2, if_pos (by omega)]; exact h
        · simp only [mutoscopelaw5_rising.l0]
          rw [if_pos c, decide_eq_true (show i < 40 by omega)]; exact h
      · obtain ⟨r', at', he, hl', hr'⟩ := nxt (⟨0, 0, 0, 0⟩ : S23)
        refine ⟨r', at', (he.succ (q := fun k => mutoscopelaw5_rising.j1 k l r at_ i true = some r') fun k h => ?_).succ fun k h => ?_, hl', hr'⟩
        · simp only [mutoscopelaw5_rising.j1]
          rw [if_pos trivial, if_pos h0, if_pos c, if_neg c2, if_pos (by omega)]; exact h
        · simp only [mutoscopelaw5_rising.l0]
          rw [if_pos c, decide_eq_true (show i < 40 by omega)]; exact h
    · refine ⟨r, at_, ((Evt.all (p := fun _ => True) fun _ => trivial).succ (q := fun k => mutoscopelaw5_rising.j1 k l r at_ i false = some r) fun k _ => by simp [mutoscopelaw5_rising.j1]).succ fun k h => ?_, by omega, hr⟩
      simp only [mutoscopelaw5_rising.l0]
      rw [if_neg c]; exact h
theorem rising_eq (l : List S34) : ∃ r at_, Evt (fun k => mutoscopelaw5_rising.f k l = some r) ∧ r.length ≤ 40 ∧ Ris r at_ := by
  obtain ⟨r, at_, h⟩ := rising_l0 l 40 [] (-5) 0 (by omega) (by simp) (by omega) ⟨fun j hj => by simp at hj, fun i j _ hj => by simp at hj, by simp, by omega⟩
  exact ⟨r, at_, h⟩
end Go.Proofs.Ytejnbjclcdmopaa.PA
end

section
set_option linter.unusedVariables false
namespace Go.Proofs.Ytejnbjclcdmopaa.PA
open Go.RowKit Go.Proofs.YtejnbjclcdmopaaW.PrintWords Go.Proofs.YtejnbjclcdmopaaW.PrintLast Go.Proofs.YtejnbjclcdmopaaW.PrintMore Go.Proofs.Ytejnbjclcdmopaa.MB
theorem rd_nat (l : List S34) (j : Nat) : rd_T34 l (j : Int) = l.getD j z34 := by unfold rd_T34; rw [Int.toNat_natCast]
theorem getD_set_eq (l : List S34) (i j : Nat) (x : S34) (hi : i < l.length) : (l.set i x).getD j z34 = if j = i then x else l.getD j z34 := by
  simp only [List.getD, List.getElem?_set]
  by_cases h : i = j
  · rw [if_pos h, if_pos h.symm]; simp [hi]
  · rw [if_neg h, if_neg (fun e => h e.symm)]
theorem Ris.set {r : List S34} {at_ : Int} (h : Ris r at_) (i : Nat) (hi : i < r.length) (x : S34) (h0 : x.f0 = (r.getD i z34).f0) (h1 : x.f1 = (r.getD i z34).f1) (h2 : 0 ≤ x.f2 ∧ x.f2 ≤ 2) : Ris (r.set i x) at_ := by
  have hf : ∀ j, ((r.set i x).getD j z34).f0 = (r.getD j z34).f0 := fun j => by rw [getD_set_eq r i j x hi]; split <;> simp_all
  refine ⟨fun j hj => ?_, fun a b hab hb => ?_, by rw [List.length_set]; exact h.top, h.low⟩
  · rw [List.length_set] at hj
    have g := h.good j hj
    rw [hf]
    refine ⟨?_, g.2⟩
    rw [getD_set_eq r i j x hi]
    split
    · rename_i e; subst e; exact ⟨by rw [h1]; exact g.1.1, h2⟩
    · exact g.1
  · rw [List.length_set] at hb
    rw [hf, hf]; exact h.rise a b hab hb
theorem fnd_at {r : List S34} {at_ : Int} (h : Ris r at_) (i : Nat) : ∀ n : Nat, i < n → n ≤ r.length → fnd r (r.getD i z34).f0 n = (i : Int) := by
  intro n
  induction n with
  | zero => intro h1 _; omega
  | succ n ih =>
    intro h1 h2
    simp only [fnd]
    rw [rd_nat]
    by_cases e : i = n
    · subst e; rw [if_pos (Int.le_refl _)]
    · rw [if_neg (by have := h.rise i n (by omega) (by omega); omega)]; exact ih (by omega) (by omega)
theorem goes_in {how p : Int} (x1 y1 x2 y2 : Int) (h : how = 0 ∨ how = 1) (h0 : 0 ≤ p) (h1 : p ≤ 65536) : 0 ≤ goes how x1 y1 x2 y2 p ∧ goes how x1 y1 x2 y2 p ≤ 65536 := by
  unfold goes
  rcases h with h | h
  · rw [if_pos h]; split <;> omega
  · rw [if_neg (by omega), if_pos h]; exact ⟨h0, h1⟩
theorem goes_0 (how x1 y1 x2 y2 : Int) : goes how x1 y1 x2 y2 0 = 0 := by
  unfold goes
  by_cases h : how = 0
  · rw [if_pos h, if_neg (by decide)]
  · rw [if_neg h]
    by_cases h1 : how = 1
    · rw [if_pos h1]
    · rw [if_neg h1]
      by_cases h2 : how = 2
      · rw [if_pos h2]; unfold curve; rw [if_pos (by decide)]
      · rw [if_neg h2]
theorem kat_at {r : List S34} {at_ : Int} (h : Ris r at_) (i : Nat) (hi : i < r.length) (none : Int) : kat r (r.getD i z34).f0 none = (r.getD i z34).f1 := by
  unfold kat
  rw [if_neg (by omega), fnd_at h i r.length hi (Nat.le_refl _), if_neg (by omega), rd_nat]
  have g := (h.good i hi).1.1
  by_cases c : (i : Int) = (r.length : Int) - 1
  · rw [if_pos c]
  · rw [if_neg c, prt_self, goes_0]
    exact midv_0 _ (by omega)
theorem kat_between {r : List S34} {at_ : Int} (h : Ris r at_) (hs : ∀ j : Nat, j < r.length → (r.getD j z34).f2 ≠ 2) (t none : Int) (hi : 0 ≤ fnd r t r.length) (hl : fnd r t r.length ≠ (r.length : Int) - 1) :
    mn (rd_T34 r (fnd r t r.length)).f1 (rd_T34 r (fnd r t r.length + 1)).f1 ≤ kat r t none ∧ kat r t none ≤ mx (rd_T34 r (fnd r t r.length)).f1 (rd_T34 r (fnd r t r.length + 1)).f1 := by
  have hb := fnd_bd r t r.length
  unfold kat
  rw [if_neg (by omega), if_neg (by omega), if_neg hl]
  generalize fnd r t r.length = i at *
  obtain ⟨n, rfl⟩ : ∃ n : Nat, i = (n : Int) := ⟨i.toNat, by omega⟩
  rw [show (n : Int) + 1 = ((n + 1 : Nat) : Int) from by omega, rd_nat, rd_nat]
  have g1 := (h.good n (by omega)).1
  have g2 := (h.good (n + 1) (by omega)).1
  have hw := hs n (by omega)
  have pb := prt_bd (r.getD n z34).f0 (r.getD (n + 1) z34).f0 t
  have gb := goes_in (r.getD n z34).f3.f0 (r.getD n z34).f3.f1 (r.getD n z34).f3.f2 (r.getD n z34).f3.f3 (how := (r.getD n z34).f2) (by have := g1.2; omega) pb.1 pb.2
  have m := midv_between (a := (r.getD n z34).f1) (b := (r.getD (n + 1) z34).f1) (by have := g1.1; omega) (by have := g2.1; omega) gb.1 gb.2
  show mn _ _ ≤ midv _ _ _ ∧ midv _ _ _ ≤ mx _ _
  unfold mn mx
  by_cases c : (r.getD n z34).f1 ≤ (r.getD (n + 1) z34).f1
  · have := m.1 c; split <;> split <;> omega
  · have := m.2 (by omega); split <;> split <;> omega
end Go.Proofs.Ytejnbjclcdmopaa.PA
end

section
set_option linter.unusedVariables false
namespace Go.Proofs.Ytejnbjclcdmopaa.Pure
open Go.RowKit Go.Proofs.Ytejnbjclcdmopaa.PA Go.Proofs.YtejnbjclcdmopaaW.PrintWords Go.Proofs.YtejnbjclcdmopaaW.PrintLast Go.Proofs.YtejnbjclcdmopaaW.PrintMore Go.Proofs.Ytejnbjclcdmopaa.MB
theorem ke_l1 (x1 : Int) (r : List S34) {at_ : Int} (h : Ris r at_) (hn : r.length ≤ 40) (hs : ∀ j : Nat, j < r.length → (r.getD j z34).f2 ≠ 2) :
    ∀ (d i : Nat), i + d = r.length → Evt fun k => mutoscopelaw5_KeyEnds.l1 k x1 r (r.length : Int) (i : Int) = some true := by
  have hl : (r.length : Int) < 140737488355328 := by omega
  intro d
  induction d with
  | zero =>
    intro i hi
    refine (Evt.of (p := fun k => 70 ≤ k) 70 fun k h => h).succ fun k hk => ?_
    simp only [mutoscopelaw5_KeyEnds.l1]
    rw [if_neg (by omega)]
    by_cases c : (r.length : Int) = 0
    · rw [if_pos c, key_At_eq r x1 x1 hl (by omega)]
      simp only [Option.bind_some]
      rw [if_pos (by unfold kat; rw [if_pos c]), known5 (by omega)]; rfl
    · rw [if_neg c, key_Find_eq r _ hl (by omega), key_At_eq r _ 0 hl (by omega)]
      simp only [Option.bind_some]
      have hb := fnd_bd r (bits .and .i64 x1 255) r.length
      have hk' : kat r (bits .and .i64 x1 255) 0 = kat r (bits .and .i64 x1 255) 0 := rfl
      by_cases c1 : fnd r (bits .and .i64 x1 255) r.length < 0
      · rw [if_pos c1, if_pos (by omega), if_pos (by unfold kat; rw [if_neg c, if_pos (by omega)]), known5 (by omega)]; rfl
      · rw [if_neg c1, w64 (x := (r.length : Int) - 1) (by omega) (by omega)]
        by_cases c2 : fnd r (bits .and .i64 x1 255) r.length = (r.length : Int) - 1
        · rw [if_pos c2, if_pos (by omega), if_pos (by omega), if_pos (by unfold kat; rw [if_neg c, if_neg (by omega), if_pos c2]), known5 (by omega)]; rfl
        · have m := kat_between h hs (bits .and .i64 x1 255) 0 (by omega) c2
          rw [if_neg c2, if_pos (by omega), if_pos (by omega), w64 (x := fnd r (bits .and .i64 x1 255) r.length + 1) (by omega) (by omega), if_pos (by omega), if_pos (by omega), if_pos m.1, if_pos m.2, known5 (by omega)]; rfl
  | succ d ih =>
    intro i hi
    have hx := ih (i + 1) (by omega)
    refine (hx.and (Evt.of (p := fun k => 70 ≤ k) 70 fun k h => h)).succ fun k hk => ?_
    obtain ⟨hx, hk⟩ := hk
    simp only [mutoscopelaw5_KeyEnds.l1]
    rw [if_pos (by omega), if_pos (by omega), if_pos (by omega), key_At_eq r _ 0 hl (by omega), key_Find_eq r _ hl (by omega)]
    simp only [Option.bind_some]
    rw [rd_nat, if_pos (kat_at h i (by omega) 0), if_pos (fnd_at h i r.length (by omega) (Nat.le_refl _)), w64 (by omega) (by omega)]
    exact hx
theorem ke_l0 (x1 : Int) : ∀ (d : Nat) (r : List S34) (at_ : Int) (i : Nat), Ris r at_ → r.length ≤ 40 → (∀ j : Nat, j < i → (r.getD j z34).f2 ≠ 2) → i + d = r.length →
    Evt fun k => mutoscopelaw5_KeyEnds.l0 k x1 r (r.length : Int) (i : Int) = some true := by
  intro d
  induction d with
  | zero =>
    intro r at_ i h hn hs hi
    refine (ke_l1 x1 r h hn (fun j hj => hs j (by omega)) r.length 0 (by omega)).succ fun k hk => ?_
    simp only [mutoscopelaw5_KeyEnds.l0]
    rw [if_neg (by omega)]; exact hk
  | succ d ih =>
    intro r at_ i h hn hs hi
    by_cases c : (r.getD i z34).f2 = 2
    · have s1 := h.set i (by omega) (⟨(rd_T34 r (i : Int)).f0, (rd_T34 r (i : Int)).f1, 1, (⟨(rd_T34 r (i : Int)).f3.f0, (rd_T34 r (i : Int)).f3.f1, (rd_T34 r (i : Int)).f3.f2, (rd_T34 r (i : Int)).f3.f3⟩ : S23)⟩ : S34) (by rw [rd_nat]) (by rw [rd_nat]) ⟨by show (0 : Int) ≤ 1; decide, by show (1 : Int) ≤ 2; decide⟩
      generalize hy : r.set i (⟨(rd_T34 r (i : Int)).f0, (rd_T34 r (i : Int)).f1, 1, (⟨(rd_T34 r (i : Int)).f3.f0, (rd_T34 r (i : Int)).f3.f1, (rd_T34 r (i : Int)).f3.f2, (rd_T34 r (i : Int)).f3.f3⟩ : S23)⟩ : S34) = y at s1
      have ly : y.length = r.length := by rw [← hy, List.length_set]
      have gy : ∀ j, y.getD j z34 = if j = i then _ else r.getD j z34 := fun j => by rw [← hy]; exact getD_set_eq r i j _ (by omega)
      have y2 : (y.getD i z34).f2 = 1 := by rw [gy, if_pos rfl]
      have s2 := s1.set i (by omega) (⟨(rd_T34 y (i : Int)).f0, (rd_T34 y (i : Int)).f1, (rd_T34 y (i : Int)).f2, (⟨0, 0, 0, 0⟩ : S23)⟩ : S34) (by rw [rd_nat]) (by rw [rd_nat]) (by rw [rd_nat]; show 0 ≤ (y.getD i z34).f2 ∧ (y.getD i z34).f2 ≤ 2; rw [y2]; decide)
      have n2 := ih _ _ (i + 1) s2 (by rw [List.length_set]; omega) (fun j hj => by
        rw [getD_set_eq y i j _ (by omega)]
        by_cases e : j = i
        · rw [if_pos e]; show (rd_T34 y (i : Int)).f2 ≠ 2; rw [rd_nat, y2]; decide
        · rw [if_neg e, gy, if_neg e]; exact hs j (by omega)) (by rw [List.length_set]; omega)
      refine n2.succ fun k hk => ?_
      simp only [mutoscopelaw5_KeyEnds.l0]
      rw [if_pos (by omega), if_pos (by omega), if_pos (by omega), if_pos (by rw [rd_nat]; exact c), Int.toNat_natCast, hy, w64 (by omega) (by omega)]
      simp only [Option.bind_some]
      rw [List.length_set, ly] at hk
      exact hk
    · refine (ih r at_ (i + 1) h hn (fun j hj => ?_) (by omega)).succ fun k hk => ?_
      · by_cases e : j = i
        · rw [e]; exact c
        · exact hs j (by omega)
      · simp only [mutoscopelaw5_KeyEnds.l0]
        rw [if_pos (by omega), if_pos (by omega), if_pos (by omega), if_neg (by rw [rd_nat]; exact c), w64 (by omega) (by omega)]
        exact hk
theorem KeyEnds : mutoscopelaw5_KeyEnds.Pure := by
  intro l a1 _ _
  obtain ⟨r, at_, he, hr, hR⟩ := rising_eq l
  have h0 := ke_l0 a1 r.length r at_ 0 hR hr (fun j hj => by omega) (by omega)
  obtain ⟨n, hn⟩ := he.and h0
  refine ⟨n, ?_⟩
  obtain ⟨e1, e2⟩ := hn n (Nat.le_refl _)
  unfold mutoscopelaw5_KeyEnds.f
  rw [e1]; exact e2
end Go.Proofs.Ytejnbjclcdmopaa.Pure
end

section
set_option linter.unusedVariables false
namespace Go.Proofs.Ytejnbjclcdmopaa.MO
open Go.RowKit Go.ChangeShapes Go.WideShapes Go.Deep Go.Proofs.YtejnbjclcdmopaaW.PrintWords
def Opn {α : Type} (P : Program) (t : TypeId) (d : Kd α) (g : α → Prop) : Prop :=
  ∀ {H : Type} {enc : TypeId × Value → H} {w : World} {base : Nat} {spare : Nat → Bool} {held : Bool} (n : Nat) (cs : List Value) (x : DataW H × List MemPlace),
    DataW.trod enc P w base spare held n t cs = some x → ∃ a : α, d.K w a cs ∧ g a
theorem opn_int {P : Program} {t : TypeId} {k : IntKind} (ht : P.underlying t = some (.int k)) : Opn P t (Kd.int k) fun a => (Lit.int k a).wf = true := by
  intro H enc w base spare held n cs x h
  obtain ⟨z, rfl, _, hw⟩ := DataW.trod_int ht h
  exact ⟨z, rfl, hw⟩
theorem opn_iso {α β : Type} {P : Program} {t : TypeId} {d : Kd α} {g : α → Prop} (h : Opn P t d g) (f : β → α) (mk : α → β) (hf : ∀ a, f (mk a) = a) (g' : β → Prop) (hg : ∀ a, g a → g' (mk a)) : Opn P t (Kd.iso d f) g' := by
  intro H enc w base spare held n cs x hx
  obtain ⟨a, ha, hga⟩ := h n cs x hx
  exact ⟨mk a, by show d.K w (f (mk a)) cs; rw [hf]; exact ha, hg a hga⟩
theorem opn_slice {α : Type} {P : Program} {t e : TypeId} {d : Kd α} {g : α → Prop} (ht : P.underlying t = some (.slice e)) (hs : P.cellsOf e = d.sz) (h : Opn P e d g) :
    Opn P t (Kd.slice e d) fun l => l.length ≤ maxLen ∧ ∀ a, a ∈ l → g a := by
  intro H enc w base spare held n cs x hx
  rcases open_slice ht hx with ⟨rfl, _⟩ | ⟨a, len, cap, m, n', D, Pl, rfl, hb, hl, hm, hmm, _, hi⟩
  · exact ⟨[], ⟨none, 0, rfl, Nat.le_refl _, rfl, by simp, fun h => absurd h (by simp)⟩, Nat.zero_le _, fun a h => by simp at h⟩
  · have hlm : len ≤ m := by rw [hmm]; split <;> omega
    have each : ∀ i, i < len → ∃ (p : α) (c : List Value), c.length = d.sz ∧ d.K w p c ∧ g p ∧ ∀ j u, c[j]? = some u → w.cell? (a.add (i * d.sz + j)) = some u := by
      intro i hil
      obtain ⟨cs', hc, htr⟩ := hi i (by omega)
      obtain ⟨p, hp, hgp⟩ := h n' cs' _ htr
      rw [hs] at hc
      obtain ⟨_, hcl, hat⟩ := World.cells?_some hc
      refine ⟨p, cs', hcl, hp, hgp, fun j u hu => ?_⟩
      have hj : j < cs'.length := (List.getElem?_eq_some_iff.1 hu).1
      rw [← Go.Deep.add_add]
      have := hat j (by omega)
      rw [this, hu]
    have all : ∀ q, q ≤ len → ∃ l : List α, l.length = q ∧ (∀ p, p ∈ l → g p) ∧ ∀ j p, l[j]? = some p → ∃ c : List Value, c.length = d.sz ∧ d.K w p c ∧ ∀ i u, c[i]? = some u → w.cell? (a.add (j * d.sz + i)) = some u := by
      intro q
      induction q with
      | zero => intro _; exact ⟨[], rfl, fun p hp => by simp at hp, fun j p hp => by simp at hp⟩
      | succ q ih =>
        intro hq
        obtain ⟨l, hlen, hg, hl'⟩ := ih (by omega)
        obtain ⟨p, c, h1, h2, h3, h4⟩ := each q (by omega)
        refine ⟨l ++ [p], by simp [hlen], fun p' hp' => ?_, fun j p' hp' => ?_⟩
        · rcases List.mem_append.1 hp' with h' | h'
          · exact hg p' h'
          · rw [List.mem_singleton.1 h']; exact h3
        · by_cases hj : j < l.length
          · rw [List.getElem?_append_left hj] at hp'
            exact hl' j p' hp'
          · rw [List.getElem?_append_right (by omega)] at hp'
            have hj0 : j - l.length = 0 := by
              have := (List.getElem?_eq_some_iff.1 hp').1
              simp at this; omega
            rw [hj0] at hp'
            obtain rfl : p = p' := by simpa using hp'
            obtain rfl : j = q := by omega
            exact ⟨c, h1, h2, h4⟩
    obtain ⟨l, hlen, hg, hl'⟩ := all len (Nat.le_refl _)
    have hmx : cap ≤ 9223372036854775807 := by simpa [maxLen] using hm
    subst hlen
    exact ⟨l, ⟨some a, cap, rfl, hl, rfl, by omega, fun _ => ⟨a, rfl, hl'⟩⟩, Nat.le_trans hl hm, hg⟩
def OpnF {β : Type} (P : Program) (fs : List Field) (off : Nat) (d : Kd β) (g : β → Prop) : Prop :=
  ∀ {H : Type} {enc : TypeId × Value → H} {w : World} {base : Nat} {spare : Nat → Bool} {held : Bool} (n : Nat) (cs : List Value), cs.length = off + d.sz →
    (∀ f, f ∈ fs → ∃ x : DataW H × List MemPlace, DataW.trod enc P w base spare held n f.type ((cs.drop f.offset).take (P.cellsOf f.type)) = some x) → ∃ b : β, d.K w b (cs.drop off) ∧ g b
theorem opnF_one {α : Type} {P : Program} {f : Field} {off : Nat} {d : Kd α} {g : α → Prop} (ho : f.offset = off) (hs : P.cellsOf f.type = d.sz) (h : Opn P f.type d g) : OpnF P [f] off d g := by
  intro H enc w base spare held n cs hl hf
  obtain ⟨x, hx⟩ := hf f (by simp)
  rw [ho, hs, List.take_of_length_le (by rw [List.length_drop]; omega)] at hx
  exact h n _ x hx
theorem opnF_cons {α β : Type} {P : Program} {f : Field} {fs : List Field} {off : Nat} {d : Kd α} {e : Kd β} {g : α → Prop} {g' : β → Prop} (ho : f.offset = off) (hs : P.cellsOf f.type = d.sz) (h : Opn P f.type d g)
    (ht : OpnF P fs (off + d.sz) e g') : OpnF P (f :: fs) off (Kd.pair d e) fun x => g x.1 ∧ g' x.2 := by
  intro H enc w base spare held n cs hl hf
  have hl' : cs.length = off + (d.sz + e.sz) := hl
  obtain ⟨x, hx⟩ := hf f (by simp)
  rw [ho, hs] at hx
  obtain ⟨a, ha, hga⟩ := h n _ x hx
  obtain ⟨b, hb, hgb⟩ := ht (H := H) (enc := enc) (w := w) (base := base) (spare := spare) (held := held) n cs (by omega) (fun f' hf' => hf f' (List.mem_cons_of_mem _ hf'))
  exact ⟨(a, b), ⟨_, _, by rw [← List.drop_drop]; exact (List.take_append_drop d.sz (cs.drop off)).symm, ha, hb⟩, hga, hgb⟩
theorem opn_struct {β : Type} {P : Program} {t : TypeId} {fs : Array Field} {d : Kd β} {g : β → Prop} (ht : P.underlying t = some (.struct fs)) (hs : P.cellsOf t = d.sz) (h : OpnF P fs.toList 0 d g) : Opn P t d g := by
  intro H enc w base spare held n cs x hx
  obtain ⟨xs, n', _, _, hl, hxl, hf⟩ := DataW.trod_struct ht hx
  obtain ⟨b, hb, hg⟩ := h (H := H) (enc := enc) (w := w) (base := base) (spare := spare) (held := held) n' cs (by omega) (fun f hf' => by
    obtain ⟨i, hi, rfl⟩ := List.mem_iff_getElem.1 hf'
    have hi' : i < fs.size := by simpa using hi
    have := hf i fs[i] (by simp [hi'])
    rw [List.getElem?_eq_getElem (by omega)] at this
    exact ⟨_, by simpa using this⟩)
  exact ⟨b, by simpa using hb, hg⟩
end Go.Proofs.Ytejnbjclcdmopaa.MO
end
