/- Written by a program of this session (wip/hprint.py, over the kit's print program): Go functions as Lean functions, and for each a proof that its call answers what that function says. No condition beyond those stated. -/
import Derived.Test.YtejnbjclcdmopaaPAx0
import Derived.Test.YtejnbjclcdmopaaPAx2
import Derived.Test.YtejnbjclcdmopaaPAx8
import Derived.Test.YtejnbjclcdmopaaPAx11
namespace Go.Proofs.Ytejnbjclcdmopaa.PA
open Go.RowKit Go.Proofs.YtejnbjclcdmopaaW.PrintWords Go.Proofs.YtejnbjclcdmopaaW.PrintLast Go.Proofs.YtejnbjclcdmopaaW.PrintMore
attribute [local go_sem] max2_int min2_int max_two min_two max_three min_three max_four min_four   -- for this text's walks alone
attribute [local go_sem] Go.Proofs.Ytejnbjclcdmopaa.MS.isSome_setCell
set_option linter.unusedVariables false
set_option linter.unusedSimpArgs false

/-! ### mutoscoperef1_Mul: function 51 -/
def mutoscoperef1_Mul.f (k : Nat) (a0 : Int) (a1 : Int) : Option (Int) := (mutoscoperef1_Hold.f a0).bind fun t172 => ((mutoscoperef1_size.f t172).bind fun bt173 => ((mutoscoperef1_Hold.f a1).bind fun t175 => ((mutoscoperef1_size.f t175).bind fun bt176 => ((bits_Mul64.f bt173.1 bt176.1).bind fun bt178 => ((mutoscoperef1_down.f k bt178.1 bt178.2 65536 (bt173.2 != bt176.2)).bind fun t180 => (some t180))))))
theorem mutoscoperef1_Mul.mono : ∀ a0 a1 k, LeO (mutoscoperef1_Mul.f k a0 a1) (mutoscoperef1_Mul.f (k + 1) a0 a1) := by
  intro a0 a1 k
  unfold mutoscoperef1_Mul.f
  repeat' first
      | (with_reducible exact mutoscoperef1_down.mono _ _ _ _ _)
      | (with_reducible exact LeO.refl _)
      | (with_reducible exact LeO.none _)
      | (with_reducible refine LeO.ite ?_ ?_)
      | (with_reducible refine LeO.bind ?_ (fun _ => ?_))
      | exact mutoscoperef1_down.mono _ _ _ _ _
      | exact LeO.none _
      | refine LeO.ite ?_ ?_
      | refine LeO.bind ?_ (fun _ => ?_)
set_option maxHeartbeats 8000000 in
set_option maxRecDepth 100000 in
theorem mutoscoperef1_Mul.calls (k : Nat) (a0 : Int) (a1 : Int) (r : Int) (w : World) (h : mutoscoperef1_Mul.f k a0 a1 = some r) :
    Calls Try.prog 51 #[.int .i64 a0, .int .i64 a1] w fun e w' => e = .returned (.int .i64 r) ∧ Below w.heap.size w w' := by
  have HB := Aside0.mk (Below.refl w.heap.size w)
  have H : ((mutoscoperef1_Hold.f a0).bind fun t172 => ((mutoscoperef1_size.f t172).bind fun bt173 => ((mutoscoperef1_Hold.f a1).bind fun t175 => ((mutoscoperef1_size.f t175).bind fun bt176 => ((bits_Mul64.f bt173.1 bt176.1).bind fun bt178 => ((mutoscoperef1_down.f k bt178.1 bt178.2 65536 (bt173.2 != bt176.2)).bind fun t180 => (some t180))))))) = some r := h
  clear h
  replace H := Option.bind_eq_some_iff.mp H
  obtain ⟨t172, A30, H⟩ := H
  replace H : ((mutoscoperef1_size.f t172).bind fun bt173 => ((mutoscoperef1_Hold.f a1).bind fun t175 => ((mutoscoperef1_size.f t175).bind fun bt176 => ((bits_Mul64.f bt173.1 bt176.1).bind fun bt178 => ((mutoscoperef1_down.f k bt178.1 bt178.2 65536 (bt173.2 != bt176.2)).bind fun t180 => (some t180)))))) = some r := H
  have A3 := Aside0.mk A30
  clear A30
  replace H := Option.bind_eq_some_iff.mp H
  obtain ⟨⟨t173, t174⟩, A40, H⟩ := H
  replace H : ((mutoscoperef1_Hold.f a1).bind fun t175 => ((mutoscoperef1_size.f t175).bind fun bt176 => ((bits_Mul64.f t173 bt176.1).bind fun bt178 => ((mutoscoperef1_down.f k bt178.1 bt178.2 65536 (t174 != bt176.2)).bind fun t180 => (some t180))))) = some r := H
  have A4 := Aside0.mk A40
  clear A40
  replace H := Option.bind_eq_some_iff.mp H
  obtain ⟨t175, A50, H⟩ := H
  replace H : ((mutoscoperef1_size.f t175).bind fun bt176 => ((bits_Mul64.f t173 bt176.1).bind fun bt178 => ((mutoscoperef1_down.f k bt178.1 bt178.2 65536 (t174 != bt176.2)).bind fun t180 => (some t180)))) = some r := H
  have A5 := Aside0.mk A50
  clear A50
  replace H := Option.bind_eq_some_iff.mp H
  obtain ⟨⟨t176, t177⟩, A60, H⟩ := H
  replace H : ((bits_Mul64.f t173 t176).bind fun bt178 => ((mutoscoperef1_down.f k bt178.1 bt178.2 65536 (t174 != t177)).bind fun t180 => (some t180))) = some r := H
  have A6 := Aside0.mk A60
  clear A60
  replace H := Option.bind_eq_some_iff.mp H
  obtain ⟨⟨t178, t179⟩, A70, H⟩ := H
  replace H : ((mutoscoperef1_down.f k t178 t179 65536 (t174 != t177)).bind fun t180 => (some t180)) = some r := H
  have A7 := Aside0.mk A70
  clear A70
  replace H := Option.bind_eq_some_iff.mp H
  obtain ⟨t180, A80, H⟩ := H
  replace H : (some t180) = some r := H
  have A8 := Aside0.mk A80
  clear A80
  obtain rfl := Option.some.inj H
  go_enter Try.func51, Try.ntmps51
  go_wp2_with (first | ((with_reducible refine gate_callee (f := 40) rfl ?_); refine goesL_ (some 13) rfl rfl Try.func40 (by kernel_rfl) rfl #[.int .i64 a0] rfl (by (try simp only [List.map_toArray, List.map_cons, List.map_nil]); first | done | rfl | (simp only [List.length_drop, List.length_take]; rfl)) ?_; (with_reducible refine (mutoscoperef1_Hold.calls a0 t172 _ A3.out).mono ?_); rintro e w' ⟨rfl, ⟨nd, rfl⟩⟩; refine ⟨_, rfl, ?_⟩) | ((with_reducible refine gate_callee (f := 57) rfl ?_); refine goesL_ (some 14) rfl rfl Try.func57 (by kernel_rfl) rfl #[.int .i64 t172] rfl (by (try simp only [List.map_toArray, List.map_cons, List.map_nil]); first | done | rfl | (simp only [List.length_drop, List.length_take]; rfl)) ?_; (with_reducible refine (mutoscoperef1_size.calls t172 t173 t174 _ A4.out).mono ?_); rintro e w' ⟨rfl, ⟨nd, rfl⟩⟩; refine ⟨_, rfl, ?_⟩) | ((with_reducible refine gate_callee (f := 40) rfl ?_); refine goesL_ (some 19) rfl rfl Try.func40 (by kernel_rfl) rfl #[.int .i64 a1] rfl (by (try simp only [List.map_toArray, List.map_cons, List.map_nil]); first | done | rfl | (simp only [List.length_drop, List.length_take]; rfl)) ?_; (with_reducible refine (mutoscoperef1_Hold.calls a1 t175 _ A5.out).mono ?_); rintro e w' ⟨rfl, ⟨nd, rfl⟩⟩; refine ⟨_, rfl, ?_⟩) | ((with_reducible refine gate_callee (f := 57) rfl ?_); refine goesL_ (some 20) rfl rfl Try.func57 (by kernel_rfl) rfl #[.int .i64 t175] rfl (by (try simp only [List.map_toArray, List.map_cons, List.map_nil]); first | done | rfl | (simp only [List.length_drop, List.length_take]; rfl)) ?_; (with_reducible refine (mutoscoperef1_size.calls t175 t176 t177 _ A6.out).mono ?_); rintro e w' ⟨rfl, ⟨nd, rfl⟩⟩; refine ⟨_, rfl, ?_⟩) | ((with_reducible refine gate_callee (f := 58) rfl ?_); refine goesL_ (some 26) rfl rfl Try.func58 (by kernel_rfl) rfl #[.int .u64 t173, .int .u64 t176] rfl (by (try simp only [List.map_toArray, List.map_cons, List.map_nil]); first | done | rfl | (simp only [List.length_drop, List.length_take]; rfl)) ?_; (with_reducible refine (bits_Mul64.calls t173 t176 t178 t179 _ A7.out).mono ?_); rintro e w' ⟨rfl, ⟨nd, rfl⟩⟩; refine ⟨_, rfl, ?_⟩) | ((with_reducible refine gate_callee (f := 59) rfl ?_); refine goesL_ (some 34) rfl rfl Try.func59 (by kernel_rfl) rfl #[.int .u64 t178, .int .u64 t179, .int .u64 65536, .bool (t174 != t177)] rfl (by (try simp only [List.map_toArray, List.map_cons, List.map_nil]); first | done | rfl | (simp only [List.length_drop, List.length_take]; rfl)) ?_; (with_reducible refine (mutoscoperef1_down.calls k t178 t179 65536 (t174 != t177) t180 _ A8.out).mono ?_); rintro e w9 ⟨rfl, hb⟩; refine ⟨_, rfl, ?_⟩; have n0_ := Aside0.mk (below_step (by repeat (first | (with_reducible first | exact HB.out | apply below_alloc | apply pw_below_drewN | apply below_drew1) | exact HB.out)) hb); clear HB; have HB := n0_; clear n0_; (try clear hb); (try clear hb2); (try clear hk); (try clear hi)))
  go_ret
  exact ⟨by first | rfl | (simp [errW_none, errW_some] <;> rfl) | (simp [*, errW_none, errW_some] <;> rfl), by repeat (first | (with_reducible first | exact HB.out | apply below_alloc | apply pw_below_drewN | apply below_drew1) | exact HB.out)⟩

/-! ### mutoscoperef1_Add: function 52 -/
def mutoscoperef1_Add.f (a0 : Int) (a1 : Int) : Option (Int) := (mutoscoperef1_Hold.f a0).bind fun t181 => ((mutoscoperef1_Hold.f a1).bind fun t182 => ((mutoscoperef1_Hold.f (wrap64 (t181 + t182))).bind fun t183 => (some t183)))
set_option maxHeartbeats 8000000 in
set_option maxRecDepth 100000 in
theorem mutoscoperef1_Add.calls (a0 : Int) (a1 : Int) (r : Int) (w : World) (h : mutoscoperef1_Add.f a0 a1 = some r) :
    Calls Try.prog 52 #[.int .i64 a0, .int .i64 a1] w fun e w' => e = .returned (.int .i64 r) ∧ Drawn0 w w' := by
  have H : ((mutoscoperef1_Hold.f a0).bind fun t181 => ((mutoscoperef1_Hold.f a1).bind fun t182 => ((mutoscoperef1_Hold.f (wrap64 (t181 + t182))).bind fun t183 => (some t183)))) = some r := h
  clear h
  replace H := Option.bind_eq_some_iff.mp H
  obtain ⟨t181, A30, H⟩ := H
  replace H : ((mutoscoperef1_Hold.f a1).bind fun t182 => ((mutoscoperef1_Hold.f (wrap64 (t181 + t182))).bind fun t183 => (some t183))) = some r := H
  have A3 := Aside0.mk A30
  clear A30
  replace H := Option.bind_eq_some_iff.mp H
  obtain ⟨t182, A40, H⟩ := H
  replace H : ((mutoscoperef1_Hold.f (wrap64 (t181 + t182))).bind fun t183 => (some t183)) = some r := H
  have A4 := Aside0.mk A40
  clear A40
  replace H := Option.bind_eq_some_iff.mp H
  obtain ⟨t183, A50, H⟩ := H
  replace H : (some t183) = some r := H
  have A5 := Aside0.mk A50
  clear A50
  obtain rfl := Option.some.inj H
  go_enter Try.func52, Try.ntmps52
  go_wp2_with (first | ((with_reducible refine gate_callee (f := 40) rfl ?_); refine goesL_ (some 6) rfl rfl Try.func40 (by kernel_rfl) rfl #[.int .i64 a0] rfl (by (try simp only [List.map_toArray, List.map_cons, List.map_nil]); first | done | rfl | (simp only [List.length_drop, List.length_take]; rfl)) ?_; (with_reducible refine (mutoscoperef1_Hold.calls a0 t181 _ A3.out).mono ?_); rintro e w' ⟨rfl, ⟨nd, rfl⟩⟩; refine ⟨_, rfl, ?_⟩) | ((with_reducible refine gate_callee (f := 40) rfl ?_); refine goesL_ (some 8) rfl rfl Try.func40 (by kernel_rfl) rfl #[.int .i64 a1] rfl (by (try simp only [List.map_toArray, List.map_cons, List.map_nil]); first | done | rfl | (simp only [List.length_drop, List.length_take]; rfl)) ?_; (with_reducible refine (mutoscoperef1_Hold.calls a1 t182 _ A4.out).mono ?_); rintro e w' ⟨rfl, ⟨nd, rfl⟩⟩; refine ⟨_, rfl, ?_⟩) | ((with_reducible refine gate_callee (f := 40) rfl ?_); refine goesL_ (some 10) rfl rfl Try.func40 (by kernel_rfl) rfl #[.int .i64 (wrap64 (t181 + t182))] rfl (by (try simp only [List.map_toArray, List.map_cons, List.map_nil]); first | done | rfl | (simp only [List.length_drop, List.length_take]; rfl)) ?_; (with_reducible refine (mutoscoperef1_Hold.calls (wrap64 (t181 + t182)) t183 _ A5.out).mono ?_); rintro e w' ⟨rfl, ⟨nd, rfl⟩⟩; refine ⟨_, rfl, ?_⟩))
  go_ret
  exact ⟨by first | rfl | (simp; done) | (simp [*]; done), by repeat (first | exact Drawn0.refl _ | apply Drawn0.step)⟩

/-! ### mutoscoperef5_Bend: function 39 -/
def mutoscoperef5_Bend.f (k : Nat) (a0 : Int) (a1 : Int) (a2 : Int) : Option (Int) := (mutoscoperef1_Clamp.f a2 0 65536).bind fun t184 => ((mutoscoperef1_Mul.f k (wrap64 (65536 - t184)) (wrap64 (65536 - t184))).bind fun t185 => ((mutoscoperef1_Mul.f k t185 t184).bind fun t186 => ((mutoscoperef1_Mul.f k (wrap64 (65536 - t184)) t184).bind fun t187 => ((mutoscoperef1_Mul.f k t187 t184).bind fun t188 => ((mutoscoperef1_Mul.f k t184 t184).bind fun t189 => ((mutoscoperef1_Mul.f k t189 t184).bind fun t190 => ((mutoscoperef1_Mul.f k (wrap64 (3 * t186)) a0).bind fun t191 => ((mutoscoperef1_Mul.f k (wrap64 (3 * t188)) a1).bind fun t192 => ((mutoscoperef1_Add.f t191 t192).bind fun t193 => ((mutoscoperef1_Add.f t193 t190).bind fun t194 => (some t194)))))))))))
theorem mutoscoperef5_Bend.mono : ∀ a0 a1 a2 k, LeO (mutoscoperef5_Bend.f k a0 a1 a2) (mutoscoperef5_Bend.f (k + 1) a0 a1 a2) := by
  intro a0 a1 a2 k
  unfold mutoscoperef5_Bend.f
  repeat' first
      | (with_reducible exact mutoscoperef1_Mul.mono _ _ _)
      | (with_reducible exact LeO.refl _)
      | (with_reducible exact LeO.none _)
      | (with_reducible refine LeO.ite ?_ ?_)
      | (with_reducible refine LeO.bind ?_ (fun _ => ?_))
      | exact mutoscoperef1_Mul.mono _ _ _
      | exact LeO.none _
      | refine LeO.ite ?_ ?_
      | refine LeO.bind ?_ (fun _ => ?_)
set_option maxHeartbeats 8000000 in
set_option maxRecDepth 100000 in
theorem mutoscoperef5_Bend.calls (k : Nat) (a0 : Int) (a1 : Int) (a2 : Int) (r : Int) (w : World) (h : mutoscoperef5_Bend.f k a0 a1 a2 = some r) :
    Calls Try.prog 39 #[.int .i64 a0, .int .i64 a1, .int .i64 a2] w fun e w' => e = .returned (.int .i64 r) ∧ Below w.heap.size w w' := by
  have HB := Aside0.mk (Below.refl w.heap.size w)
  have H : ((mutoscoperef1_Clamp.f a2 0 65536).bind fun t184 => ((mutoscoperef1_Mul.f k (wrap64 (65536 - t184)) (wrap64 (65536 - t184))).bind fun t185 => ((mutoscoperef1_Mul.f k t185 t184).bind fun t186 => ((mutoscoperef1_Mul.f k (wrap64 (65536 - t184)) t184).bind fun t187 => ((mutoscoperef1_Mul.f k t187 t184).bind fun t188 => ((mutoscoperef1_Mul.f k t184 t184).bind fun t189 => ((mutoscoperef1_Mul.f k t189 t184).bind fun t190 => ((mutoscoperef1_Mul.f k (wrap64 (3 * t186)) a0).bind fun t191 => ((mutoscoperef1_Mul.f k (wrap64 (3 * t188)) a1).bind fun t192 => ((mutoscoperef1_Add.f t191 t192).bind fun t193 => ((mutoscoperef1_Add.f t193 t190).bind fun t194 => (some t194)))))))))))) = some r := h
  clear h
  replace H := Option.bind_eq_some_iff.mp H
  obtain ⟨t184, A40, H⟩ := H
  replace H : ((mutoscoperef1_Mul.f k (wrap64 (65536 - t184)) (wrap64 (65536 - t184))).bind fun t185 => ((mutoscoperef1_Mul.f k t185 t184).bind fun t186 => ((mutoscoperef1_Mul.f k (wrap64 (65536 - t184)) t184).bind fun t187 => ((mutoscoperef1_Mul.f k t187 t184).bind fun t188 => ((mutoscoperef1_Mul.f k t184 t184).bind fun t189 => ((mutoscoperef1_Mul.f k t189 t184).bind fun t190 => ((mutoscoperef1_Mul.f k (wrap64 (3 * t186)) a0).bind fun t191 => ((mutoscoperef1_Mul.f k (wrap64 (3 * t188)) a1).bind fun t192 => ((mutoscoperef1_Add.f t191 t192).bind fun t193 => ((mutoscoperef1_Add.f t193 t190).bind fun t194 => (some t194))))))))))) = some r := H
  have A4 := Aside0.mk A40
  clear A40
  replace H := Option.bind_eq_some_iff.mp H
  obtain ⟨t185, A50, H⟩ := H
  replace H : ((mutoscoperef1_Mul.f k t185 t184).bind fun t186 => ((mutoscoperef1_Mul.f k (wrap64 (65536 - t184)) t184).bind fun t187 => ((mutoscoperef1_Mul.f k t187 t184).bind fun t188 => ((mutoscoperef1_Mul.f k t184 t184).bind fun t189 => ((mutoscoperef1_Mul.f k t189 t184).bind fun t190 => ((mutoscoperef1_Mul.f k (wrap64 (3 * t186)) a0).bind fun t191 => ((mutoscoperef1_Mul.f k (wrap64 (3 * t188)) a1).bind fun t192 => ((mutoscoperef1_Add.f t191 t192).bind fun t193 => ((mutoscoperef1_Add.f t193 t190).bind fun t194 => (some t194)))))))))) = some r := H
  have A5 := Aside0.mk A50
  clear A50
  replace H := Option.bind_eq_some_iff.mp H
  obtain ⟨t186, A60, H⟩ := H
  replace H : ((mutoscoperef1_Mul.f k (wrap64 (65536 - t184)) t184).bind fun t187 => ((mutoscoperef1_Mul.f k t187 t184).bind fun t188 => ((mutoscoperef1_Mul.f k t184 t184).bind fun t189 => ((mutoscoperef1_Mul.f k t189 t184).bind fun t190 => ((mutoscoperef1_Mul.f k (wrap64 (3 * t186)) a0).bind fun t191 => ((mutoscoperef1_Mul.f k (wrap64 (3 * t188)) a1).bind fun t192 => ((mutoscoperef1_Add.f t191 t192).bind fun t193 => ((mutoscoperef1_Add.f t193 t190).bind fun t194 => (some t194))))))))) = some r := H
  have A6 := Aside0.mk A60
  clear A60
  replace H := Option.bind_eq_some_iff.mp H
  obtain ⟨t187, A70, H⟩ := H
  replace H : ((mutoscoperef1_Mul.f k t187 t184).bind fun t188 => ((mutoscoperef1_Mul.f k t184 t184).bind fun t189 => ((mutoscoperef1_Mul.f k t189 t184).bind fun t190 => ((mutoscoperef1_Mul.f k (wrap64 (3 * t186)) a0).bind fun t191 => ((mutoscoperef1_Mul.f k (wrap64 (3 * t188)) a1).bind fun t192 => ((mutoscoperef1_Add.f t191 t192).bind fun t193 => ((mutoscoperef1_Add.f t193 t190).bind fun t194 => (some t194)))))))) = some r := H
  have A7 := Aside0.mk A70
  clear A70
  replace H := Option.bind_eq_some_iff.mp H
  obtain ⟨t188, A80, H⟩ := H
  replace H : ((mutoscoperef1_Mul.f k t184 t184).bind fun t189 => ((mutoscoperef1_Mul.f k t189 t184).bind fun t190 => ((mutoscoperef1_Mul.f k (wrap64 (3 * t186)) a0).bind fun t191 => ((mutoscoperef1_Mul.f k (wrap64 (3 * t188)) a1).bind fun t192 => ((mutoscoperef1_Add.f t191 t192).bind fun t193 => ((mutoscoperef1_Add.f t193 t190).bind fun t194 => (some t194))))))) = some r := H
  have A8 := Aside0.mk A80
  clear A80
  replace H := Option.bind_eq_some_iff.mp H
  obtain ⟨t189, A90, H⟩ := H
  replace H : ((mutoscoperef1_Mul.f k t189 t184).bind fun t190 => ((mutoscoperef1_Mul.f k (wrap64 (3 * t186)) a0).bind fun t191 => ((mutoscoperef1_Mul.f k (wrap64 (3 * t188)) a1).bind fun t192 => ((mutoscoperef1_Add.f t191 t192).bind fun t193 => ((mutoscoperef1_Add.f t193 t190).bind fun t194 => (some t194)))))) = some r := H
  have A9 := Aside0.mk A90
  clear A90
  replace H := Option.bind_eq_some_iff.mp H
  obtain ⟨t190, A100, H⟩ := H
  replace H : ((mutoscoperef1_Mul.f k (wrap64 (3 * t186)) a0).bind fun t191 => ((mutoscoperef1_Mul.f k (wrap64 (3 * t188)) a1).bind fun t192 => ((mutoscoperef1_Add.f t191 t192).bind fun t193 => ((mutoscoperef1_Add.f t193 t190).bind fun t194 => (some t194))))) = some r := H
  have A10 := Aside0.mk A100
  clear A100
  replace H := Option.bind_eq_some_iff.mp H
  obtain ⟨t191, A110, H⟩ := H
  replace H : ((mutoscoperef1_Mul.f k (wrap64 (3 * t188)) a1).bind fun t192 => ((mutoscoperef1_Add.f t191 t192).bind fun t193 => ((mutoscoperef1_Add.f t193 t190).bind fun t194 => (some t194)))) = some r := H
  have A11 := Aside0.mk A110
  clear A110
  replace H := Option.bind_eq_some_iff.mp H
  obtain ⟨t192, A120, H⟩ := H
  replace H : ((mutoscoperef1_Add.f t191 t192).bind fun t193 => ((mutoscoperef1_Add.f t193 t190).bind fun t194 => (some t194))) = some r := H
  have A12 := Aside0.mk A120
  clear A120
  replace H := Option.bind_eq_some_iff.mp H
  obtain ⟨t193, A130, H⟩ := H
  replace H : ((mutoscoperef1_Add.f t193 t190).bind fun t194 => (some t194)) = some r := H
  have A13 := Aside0.mk A130
  clear A130
  replace H := Option.bind_eq_some_iff.mp H
  obtain ⟨t194, A140, H⟩ := H
  replace H : (some t194) = some r := H
  have A14 := Aside0.mk A140
  clear A140
  obtain rfl := Option.some.inj H
  go_enter Try.func39, Try.ntmps39
  go_wp2_with (first | ((with_reducible refine gate_callee (f := 50) rfl ?_); refine goesL_ (some 12) rfl rfl Try.func50 (by kernel_rfl) rfl #[.int .i64 a2, .int .i64 0, .int .i64 65536] rfl (by (try simp only [List.map_toArray, List.map_cons, List.map_nil]); first | done | rfl | (simp only [List.length_drop, List.length_take]; rfl)) ?_; (with_reducible refine (mutoscoperef1_Clamp.calls a2 0 65536 t184 _ A4.out).mono ?_); rintro e w' ⟨rfl, ⟨nd, rfl⟩⟩; refine ⟨_, rfl, ?_⟩) | ((with_reducible refine gate_callee (f := 51) rfl ?_); refine goesL_ (some 17) rfl rfl Try.func51 (by kernel_rfl) rfl #[.int .i64 (wrap64 (65536 - t184)), .int .i64 (wrap64 (65536 - t184))] rfl (by (try simp only [List.map_toArray, List.map_cons, List.map_nil]); first | done | rfl | (simp only [List.length_drop, List.length_take]; rfl)) ?_; (with_reducible refine (mutoscoperef1_Mul.calls k (wrap64 (65536 - t184)) (wrap64 (65536 - t184)) t185 _ A5.out).mono ?_); rintro e w15 ⟨rfl, hb⟩; refine ⟨_, rfl, ?_⟩; have n0_ := Aside0.mk (below_step (by repeat (first | (with_reducible first | exact HB.out | apply below_alloc | apply pw_below_drewN | apply below_drew1) | exact HB.out)) hb); clear HB; have HB := n0_; clear n0_; (try clear hb); (try clear hb2); (try clear hk); (try clear hi)) | ((with_reducible refine gate_callee (f := 51) rfl ?_); refine goesL_ (some 19) rfl rfl Try.func51 (by kernel_rfl) rfl #[.int .i64 t185, .int .i64 t184] rfl (by (try simp only [List.map_toArray, List.map_cons, List.map_nil]); first | done | rfl | (simp only [List.length_drop, List.length_take]; rfl)) ?_; (with_reducible refine (mutoscoperef1_Mul.calls k t185 t184 t186 _ A6.out).mono ?_); rintro e w16 ⟨rfl, hb⟩; refine ⟨_, rfl, ?_⟩; have n0_ := Aside0.mk (below_step (by repeat (first | (with_reducible first | exact HB.out | apply below_alloc | apply pw_below_drewN | apply below_drew1) | exact HB.out)) hb); clear HB; have HB := n0_; clear n0_; (try clear hb); (try clear hb2); (try clear hk); (try clear hi)) | ((with_reducible refine gate_callee (f := 51) rfl ?_); refine goesL_ (some 23) rfl rfl Try.func51 (by kernel_rfl) rfl #[.int .i64 (wrap64 (65536 - t184)), .int .i64 t184] rfl (by (try simp only [List.map_toArray, List.map_cons, List.map_nil]); first | done | rfl | (simp only [List.length_drop, List.length_take]; rfl)) ?_; (with_reducible refine (mutoscoperef1_Mul.calls k (wrap64 (65536 - t184)) t184 t187 _ A7.out).mono ?_); rintro e w17 ⟨rfl, hb⟩; refine ⟨_, rfl, ?_⟩; have n0_ := Aside0.mk (below_step (by repeat (first | (with_reducible first | exact HB.out | apply below_alloc | apply pw_below_drewN | apply below_drew1) | exact HB.out)) hb); clear HB; have HB := n0_; clear n0_; (try clear hb); (try clear hb2); (try clear hk); (try clear hi)) | ((with_reducible refine gate_callee (f := 51) rfl ?_); refine goesL_ (some 25) rfl rfl Try.func51 (by kernel_rfl) rfl #[.int .i64 t187, .int .i64 t184] rfl (by (try simp only [List.map_toArray, List.map_cons, List.map_nil]); first | done | rfl | (simp only [List.length_drop, List.length_take]; rfl)) ?_; (with_reducible refine (mutoscoperef1_Mul.calls k t187 t184 t188 _ A8.out).mono ?_); rintro e w18 ⟨rfl, hb⟩; refine ⟨_, rfl, ?_⟩; have n0_ := Aside0.mk (below_step (by repeat (first | (with_reducible first | exact HB.out | apply below_alloc | apply pw_below_drewN | apply below_drew1) | exact HB.out)) hb); clear HB; have HB := n0_; clear n0_; (try clear hb); (try clear hb2); (try clear hk); (try clear hi)) | ((with_reducible refine gate_callee (f := 51) rfl ?_); refine goesL_ (some 29) rfl rfl Try.func51 (by kernel_rfl) rfl #[.int .i64 t184, .int .i64 t184] rfl (by (try simp only [List.map_toArray, List.map_cons, List.map_nil]); first | done | rfl | (simp only [List.length_drop, List.length_take]; rfl)) ?_; (with_reducible refine (mutoscoperef1_Mul.calls k t184 t184 t189 _ A9.out).mono ?_); rintro e w19 ⟨rfl, hb⟩; refine ⟨_, rfl, ?_⟩; have n0_ := Aside0.mk (below_step (by repeat (first | (with_reducible first | exact HB.out | apply below_alloc | apply pw_below_drewN | apply below_drew1) | exact HB.out)) hb); clear HB; have HB := n0_; clear n0_; (try clear hb); (try clear hb2); (try clear hk); (try clear hi)) | ((with_reducible refine gate_callee (f := 51) rfl ?_); refine goesL_ (some 31) rfl rfl Try.func51 (by kernel_rfl) rfl #[.int .i64 t189, .int .i64 t184] rfl (by (try simp only [List.map_toArray, List.map_cons, List.map_nil]); first | done | rfl | (simp only [List.length_drop, List.length_take]; rfl)) ?_; (with_reducible refine (mutoscoperef1_Mul.calls k t189 t184 t190 _ A10.out).mono ?_); rintro e w20 ⟨rfl, hb⟩; refine ⟨_, rfl, ?_⟩; have n0_ := Aside0.mk (below_step (by repeat (first | (with_reducible first | exact HB.out | apply below_alloc | apply pw_below_drewN | apply below_drew1) | exact HB.out)) hb); clear HB; have HB := n0_; clear n0_; (try clear hb); (try clear hb2); (try clear hk); (try clear hi)) | ((with_reducible refine gate_callee (f := 51) rfl ?_); refine goesL_ (some 34) rfl rfl Try.func51 (by kernel_rfl) rfl #[.int .i64 (wrap64 (3 * t186)), .int .i64 a0] rfl (by (try simp only [List.map_toArray, List.map_cons, List.map_nil]); first | done | rfl | (simp only [List.length_drop, List.length_take]; rfl)) ?_; (with_reducible refine (mutoscoperef1_Mul.calls k (wrap64 (3 * t186)) a0 t191 _ A11.out).mono ?_); rintro e w21 ⟨rfl, hb⟩; refine ⟨_, rfl, ?_⟩; have n0_ := Aside0.mk (below_step (by repeat (first | (with_reducible first | exact HB.out | apply below_alloc | apply pw_below_drewN | apply below_drew1) | exact HB.out)) hb); clear HB; have HB := n0_; clear n0_; (try clear hb); (try clear hb2); (try clear hk); (try clear hi)) | ((with_reducible refine gate_callee (f := 51) rfl ?_); refine goesL_ (some 37) rfl rfl Try.func51 (by kernel_rfl) rfl #[.int .i64 (wrap64 (3 * t188)), .int .i64 a1] rfl (by (try simp only [List.map_toArray, List.map_cons, List.map_nil]); first | done | rfl | (simp only [List.length_drop, List.length_take]; rfl)) ?_; (with_reducible refine (mutoscoperef1_Mul.calls k (wrap64 (3 * t188)) a1 t192 _ A12.out).mono ?_); rintro e w22 ⟨rfl, hb⟩; refine ⟨_, rfl, ?_⟩; have n0_ := Aside0.mk (below_step (by repeat (first | (with_reducible first | exact HB.out | apply below_alloc | apply pw_below_drewN | apply below_drew1) | exact HB.out)) hb); clear HB; have HB := n0_; clear n0_; (try clear hb); (try clear hb2); (try clear hk); (try clear hi)) | ((with_reducible refine gate_callee (f := 52) rfl ?_); refine goesL_ (some 38) rfl rfl Try.func52 (by kernel_rfl) rfl #[.int .i64 t191, .int .i64 t192] rfl (by (try simp only [List.map_toArray, List.map_cons, List.map_nil]); first | done | rfl | (simp only [List.length_drop, List.length_take]; rfl)) ?_; (with_reducible refine (mutoscoperef1_Add.calls t191 t192 t193 _ A13.out).mono ?_); rintro e w' ⟨rfl, ⟨nd, rfl⟩⟩; refine ⟨_, rfl, ?_⟩) | ((with_reducible refine gate_callee (f := 52) rfl ?_); refine goesL_ (some 40) rfl rfl Try.func52 (by kernel_rfl) rfl #[.int .i64 t193, .int .i64 t190] rfl (by (try simp only [List.map_toArray, List.map_cons, List.map_nil]); first | done | rfl | (simp only [List.length_drop, List.length_take]; rfl)) ?_; (with_reducible refine (mutoscoperef1_Add.calls t193 t190 t194 _ A14.out).mono ?_); rintro e w' ⟨rfl, ⟨nd, rfl⟩⟩; refine ⟨_, rfl, ?_⟩))
  go_ret
  exact ⟨by first | rfl | (simp [errW_none, errW_some] <;> rfl) | (simp [*, errW_none, errW_some] <;> rfl), by repeat (first | (with_reducible first | exact HB.out | apply below_alloc | apply pw_below_drewN | apply below_drew1) | exact HB.out)⟩

end Go.Proofs.Ytejnbjclcdmopaa.PA
