/- The row of the law PoseTells: whatever its arguments, the call returns true, and they read behind it as before. No condition. -/
import Derived.Test.YtifalphladcdcaaGreatRows
import Derived.Test.YtifalphladcdcaaGreatPoseTellsCallT
import Derived.Test.YtifalphladcdcaaGreatPoseTellsJoin
import Derived.WalkKit
import Derived.ProofKit
import Derived.OpenShut
import Derived.ShutString
import Derived.ChangeOld
import Derived.Below
import Derived.SizedLaws
import Derived.Carry
set_option linter.unusedVariables false
set_option linter.unusedSimpArgs false
namespace Go.Proofs.YtifalphladcdcaaGreat.poseTells
open Go.ChangeShapes Go.WideShapes Go.ChangeAt Go.RowKit
open Go.ChangeMaps (open_string shut_string)
open Go.VM (V Opn Old PR AR lite_of opn_int opn_bool opn_array opn_slice opn_struct opnF_nil opnF_cons okWide_array arg_agg open_argsU)
set_option linter.unusedVariables false
theorem own : ownKnob Tryz.prog.godebug = none := by kernel_rfl
theorem laidOut : laidOutB Tryz.prog = true := by kernel_rfl
set_option maxRecDepth 100000 in
theorem opn3 : Opn Tryz.prog 3 Go.Proofs.YtifalphladcdcaaGreat.H.pred3 := opn_int Tryz.underlying3
set_option maxRecDepth 100000 in
theorem opn22 : Opn Tryz.prog 22 Go.Proofs.YtifalphladcdcaaGreat.H.pred22 := opn_slice Tryz.underlying22 (by kernel_rfl) (by kernel_rfl) (by decide) opn3
set_option maxRecDepth 100000 in
theorem opn2 : Opn Tryz.prog 2 Go.Proofs.YtifalphladcdcaaGreat.H.pred2 := opn_int Tryz.underlying2
set_option maxRecDepth 100000 in
theorem opn133 : Opn Tryz.prog 133 Go.Proofs.YtifalphladcdcaaGreat.H.pred133 := opn_struct Tryz.underlying133 (by kernel_rfl) (opnF_cons (by kernel_rfl) opn3 (opnF_cons (by kernel_rfl) opn3 (opnF_cons (by kernel_rfl) opn3 (opnF_cons (by kernel_rfl) opn2 opnF_nil))))
set_option maxRecDepth 100000 in
theorem opn75 : Opn Tryz.prog 75 Go.Proofs.YtifalphladcdcaaGreat.H.pred75 := opn_slice Tryz.underlying75 (by kernel_rfl) (by kernel_rfl) (by decide) opn133
set_option maxRecDepth 100000 in
theorem opn59 : Opn Tryz.prog 59 Go.Proofs.YtifalphladcdcaaGreat.H.pred59 := opn_struct Tryz.underlying59 (by kernel_rfl) (opnF_cons (by kernel_rfl) opn2 (opnF_cons (by kernel_rfl) opn2 (opnF_cons (by kernel_rfl) opn2 (opnF_cons (by kernel_rfl) opn2 (opnF_cons (by kernel_rfl) opn2 (opnF_cons (by kernel_rfl) opn2 opnF_nil))))))
set_option maxRecDepth 100000 in
theorem lifted (os : Os) (started : os.Started) (H : Type) (enc : TypeId × Value → H) :
    ReturnsInHanded {} Tryz.checked os 7 .any (Rows.poseTellsSpec.pre6 enc Tryz.prog Tryz.f7 Rows.poseTellsRow.domain false) (Rows.poseTellsSpec.post enc Tryz.prog Tryz.f7 false true false false) := by
  refine returnsInHanded_of_change_sized (C := Tryz.checked) own started (by kernel_rfl) Tryz.func7
    (ChangeSpec.witness6 (enc := enc) (C := Tryz.checked) false ⟨#[], #[.slice none 0 0, .slice none 0 0, .int .i64 0, .agg #[.int .i64 0, .int .i64 0, .int .i64 0, .int .i64 0, .int .i64 0, .int .i64 0], .int .i64 0], []⟩ 8 (by kernel_rfl) (by kernel_rfl) (by kernel_rfl) (by kernel_rfl)) ?_
  intro W base args ds gs before hval0 hW hcnd hsz0 _
  have hval : ∀ (j : Nat) t v, Tryz.f7.params[j]? = some t → args[j]? = some v → Value.okWide Tryz.prog W .any base t v := hval0
  have hW' := hW
  obtain ⟨p, q, hA0, hV, rfl, hfz, hnd⟩ := hW
  have hA : DataW.TrodAll enc Tryz.prog W 0 (fun _ => true) true Tryz.f7.params.toList args.toList ds p := hA0
  rw [Tryz.params7] at hA hval
  obtain ⟨v0, vs0, d0, ds0, p0, q0, hargs, rfl, rfl, h0, r0⟩ := trodAll_cons hA
  obtain ⟨v1, vs1, d1, ds1, p1, q1, rfl, rfl, rfl, h1, r1⟩ := trodAll_cons r0
  obtain ⟨v2, vs2, d2, ds2, p2, q2, rfl, rfl, rfl, h2, r2⟩ := trodAll_cons r1
  obtain ⟨v3, vs3, d3, ds3, p3, q3, rfl, rfl, rfl, h3, r3⟩ := trodAll_cons r2
  obtain ⟨v4, vs4, d4, ds4, p4, q4, rfl, rfl, rfl, h4, r4⟩ := trodAll_cons r3
  obtain ⟨rfl, rfl, rfl⟩ := trodAll_nil r4
  obtain rfl : args = #[v0, v1, v2, v3, v4] := by cases args; simp_all
  obtain ⟨rfl, rfl⟩ := trodVars_none hV
  have k0 := h0
  have lt0 : ∀ x ∈ p0, x.block < W.heap.size := by obtain ⟨m, hm⟩ := k0; exact DataW.trod_lt m _ _ _ hm
  obtain ⟨A0, len0, cap0, rfl⟩ := okWide_slice Tryz.underlying22 (hval 0 22 v0 rfl rfl)
  obtain ⟨fuel0, hf0⟩ := h0
  obtain ⟨us0, e0, hp0, xs0, rfl, hl0, g0⟩ := opn22 fuel0 _ _ hf0 (lite_of hsz0 (j := 0) (by rfl) (by rfl))
  have k1 := h1
  have lt1 : ∀ x ∈ p1, x.block < W.heap.size := by obtain ⟨m, hm⟩ := k1; exact DataW.trod_lt m _ _ _ hm
  obtain ⟨A1, len1, cap1, rfl⟩ := okWide_slice Tryz.underlying75 (hval 1 75 v1 rfl rfl)
  obtain ⟨fuel1, hf1⟩ := h1
  obtain ⟨us1, e1, hp1, xs1, rfl, hl1, g1⟩ := opn75 fuel1 _ _ hf1 (lite_of hsz0 (j := 1) (by rfl) (by rfl))
  obtain ⟨a2, rfl, rfl, rfl, w2⟩ := open_int Tryz.underlying2 (hval 2 2 v2 rfl rfl) h2
  have k3 := h3
  have lt3 : ∀ x ∈ p3, x.block < W.heap.size := by obtain ⟨m, hm⟩ := k3; exact DataW.trod_lt m _ _ _ hm
  obtain ⟨cs3, rfl, _⟩ := okWide_struct Tryz.underlying59 (hval 3 59 v3 rfl rfl)
  obtain ⟨fuel3, hf3⟩ := h3
  obtain ⟨us3, e3, hp3, g3⟩ := opn59 fuel3 _ _ hf3 (lite_of hsz0 (j := 3) (by rfl) (by rfl))
  obtain ⟨a4, rfl, rfl, rfl, w4⟩ := open_int Tryz.underlying3 (hval 4 3 v4 rfl rfl) h4
  clear hA0 hval0 hsz0
  refine (open_argsU VT.X_ok VT.mixed Go.Proofs.YtifalphladcdcaaGreat.H.os0 (Go.Proofs.YtifalphladcdcaaGreat.H.poseTells_call hl0 g0 hl1 g1 a2 g3 a4) W #[.slice A0 len0 cap0, .slice A1 len1 cap1, .int .i64 a2, .agg cs3, .int .i64 a4] (by exact And.intro (AR.leaf (.pr (hp0 0 _ _ rfl rfl))) (And.intro (AR.leaf (.pr (hp1 0 _ _ rfl rfl))) (And.intro (AR.leaf (.pr (.int _ _))) (And.intro (arg_agg e3 hp3) (And.intro (AR.leaf (.pr (.int _ _))) (trivial))))))).mono fun e W' ⟨he, bel⟩ => ?_
  subst he
  exact ⟨_, rfl, _, _, _, [], _, [], hW', trodAll_mk1 (shut_bool Tryz.underlying4 _), (trodAll_cons_mk (Below.trod laidOut (by kernel_rfl) (of_decide_eq_true (by kernel_rfl)) k0 bel lt0) (trodAll_cons_mk (Below.trod laidOut (by kernel_rfl) (of_decide_eq_true (by kernel_rfl)) k1 bel lt1) (trodAll_cons_mk (shut_int Tryz.underlying2 w2) (trodAll_cons_mk (Below.trod laidOut (by kernel_rfl) (of_decide_eq_true (by kernel_rfl)) k3 bel lt3) (trodAll_cons_mk (shut_int Tryz.underlying3 w4) trodAll_mk0))))), rfl, bel.frame _, fun h => by cases h⟩
theorem over : Rows.poseTellsRow.holds Tryz.pinned (OpenSpec.ofChange Rows.poseTellsSpec) :=
  OpenClaim.holds_of_wide 7 Tryz.f7 rfl rfl rfl rfl rfl rfl rfl ⟨rfl, rfl, rfl, rfl, rfl⟩ rfl rfl rfl rfl rfl (by kernel_rfl) Tryz.func7 Go.Proofs.YtifalphladcdcaaGreat.JposeTells.closed
    (of_decide_eq_true (by kernel_rfl)) (by unfold Func.isWrapper; first | (rw [if_pos (by decide +kernel)]; kernel_rfl) | (rw [if_neg (by decide +kernel)]; exact ⟨rfl, rfl⟩))
    (fun os started H enc _ => lifted os started H enc)
theorem proved : Rows.PoseTellsSaid := over
#print axioms proved
end Go.Proofs.YtifalphladcdcaaGreat.poseTells
namespace Go.Proofs.YtifalphladcdcaaGreat
/-- The row, under a short name, for the claim. -/
theorem poseTells_holds : Rows.PoseTellsSaid := poseTells.proved
end Go.Proofs.YtifalphladcdcaaGreat
