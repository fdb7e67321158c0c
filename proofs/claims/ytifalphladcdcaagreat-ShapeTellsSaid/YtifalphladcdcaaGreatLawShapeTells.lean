/- The row of the law ShapeTells: whatever its arguments, the call returns true, and they read behind it as before. No condition. -/
import Derived.Test.YtifalphladcdcaaGreatRows
import Derived.Test.YtifalphladcdcaaGreatShapeTellsCallZ
import Derived.Test.YtifalphladcdcaaGreatShapeTellsJoin
import Derived.WalkKit
import Derived.ProofKit
import Derived.OpenShut
import Derived.ShutString
import Derived.ChangeOld
import Derived.Below
import Derived.SizedLaws
import Derived.Carry
set_option linter.unusedVariables false
set_option linter.unusedSimpArgs false
namespace Go.Proofs.YtifalphladcdcaaGreat.shapeTells
open Go.ChangeShapes Go.WideShapes Go.ChangeAt Go.RowKit
open Go.ChangeMaps (open_string shut_string)
open Go.VM (V Opn Old PR AR lite_of opn_int opn_bool opn_array opn_slice opn_struct opnF_nil opnF_cons okWide_array arg_agg open_argsU)
set_option linter.unusedVariables false
theorem own : ownKnob Tryz.prog.godebug = none := by kernel_rfl
theorem laidOut : laidOutB Tryz.prog = true := by kernel_rfl
set_option maxRecDepth 100000 in
theorem opn3 : Opn Tryz.prog 3 Go.Proofs.YtifalphladcdcaaGreat.H.pred3 := opn_int Tryz.underlying3
set_option maxRecDepth 100000 in
theorem opn22 : Opn Tryz.prog 22 Go.Proofs.YtifalphladcdcaaGreat.H.pred22 := opn_slice Tryz.underlying22 (by kernel_rfl) (by kernel_rfl) (by decide) opn3
set_option maxRecDepth 100000 in
theorem opn2 : Opn Tryz.prog 2 Go.Proofs.YtifalphladcdcaaGreat.H.pred2 := opn_int Tryz.underlying2
set_option maxRecDepth 100000 in
theorem opn72 : Opn Tryz.prog 72 Go.Proofs.YtifalphladcdcaaGreat.H.pred72 := opn_struct Tryz.underlying72 (by kernel_rfl) (opnF_cons (by kernel_rfl) opn2 (opnF_cons (by kernel_rfl) opn2 (opnF_cons (by kernel_rfl) opn2 (opnF_cons (by kernel_rfl) opn2 opnF_nil))))
set_option maxRecDepth 100000 in
theorem opn74 : Opn Tryz.prog 74 Go.Proofs.YtifalphladcdcaaGreat.H.pred74 := opn_struct Tryz.underlying74 (by kernel_rfl) (opnF_cons (by kernel_rfl) opn2 (opnF_cons (by kernel_rfl) opn2 (opnF_cons (by kernel_rfl) opn3 (opnF_cons (by kernel_rfl) opn72 opnF_nil))))
set_option maxRecDepth 100000 in
theorem opn23 : Opn Tryz.prog 23 Go.Proofs.YtifalphladcdcaaGreat.H.pred23 := opn_slice Tryz.underlying23 (by kernel_rfl) (by kernel_rfl) (by decide) opn74
set_option maxRecDepth 100000 in
theorem opn4 : Opn Tryz.prog 4 Go.Proofs.YtifalphladcdcaaGreat.H.pred4 := opn_bool Tryz.underlying4
set_option maxRecDepth 100000 in
theorem opn28 : Opn Tryz.prog 28 Go.Proofs.YtifalphladcdcaaGreat.H.pred28 := opn_struct Tryz.underlying28 (by kernel_rfl) (opnF_cons (by kernel_rfl) opn2 (opnF_cons (by kernel_rfl) opn2 opnF_nil))
set_option maxRecDepth 100000 in
theorem opn53 : Opn Tryz.prog 53 Go.Proofs.YtifalphladcdcaaGreat.H.pred53 := opn_slice Tryz.underlying53 (by kernel_rfl) (by kernel_rfl) (by decide) opn28
set_option maxRecDepth 100000 in
theorem opn55 : Opn Tryz.prog 55 Go.Proofs.YtifalphladcdcaaGreat.H.pred55 := opn_struct Tryz.underlying55 (by kernel_rfl) (opnF_cons (by kernel_rfl) opn4 (opnF_cons (by kernel_rfl) opn53 opnF_nil))
set_option maxRecDepth 100000 in
theorem opn100 : Opn Tryz.prog 100 Go.Proofs.YtifalphladcdcaaGreat.H.pred100 := opn_struct Tryz.underlying100 (by kernel_rfl) (opnF_cons (by kernel_rfl) opn2 (opnF_cons (by kernel_rfl) opn55 (opnF_cons (by kernel_rfl) opn3 (opnF_cons (by kernel_rfl) opn72 opnF_nil))))
set_option maxRecDepth 100000 in
theorem opn24 : Opn Tryz.prog 24 Go.Proofs.YtifalphladcdcaaGreat.H.pred24 := opn_slice Tryz.underlying24 (by kernel_rfl) (by kernel_rfl) (by decide) opn100
set_option maxRecDepth 100000 in
theorem opn5 : Opn Tryz.prog 5 Go.Proofs.YtifalphladcdcaaGreat.H.pred5 := opn_int Tryz.underlying5
set_option maxRecDepth 100000 in
theorem opn26 : Opn Tryz.prog 26 Go.Proofs.YtifalphladcdcaaGreat.H.pred26 := opn_array Tryz.underlying26 (by kernel_rfl) (by kernel_rfl) opn5
set_option maxRecDepth 100000 in
theorem opn30 : Opn Tryz.prog 30 Go.Proofs.YtifalphladcdcaaGreat.H.pred30 := opn_struct Tryz.underlying30 (by kernel_rfl) (opnF_cons (by kernel_rfl) opn3 (opnF_cons (by kernel_rfl) opn26 (opnF_cons (by kernel_rfl) opn26 (opnF_cons (by kernel_rfl) opn28 (opnF_cons (by kernel_rfl) opn28 (opnF_cons (by kernel_rfl) opn2 opnF_nil))))))
set_option maxRecDepth 100000 in
theorem opn108 : Opn Tryz.prog 108 Go.Proofs.YtifalphladcdcaaGreat.H.pred108 := opn_struct Tryz.underlying108 (by kernel_rfl) (opnF_cons (by kernel_rfl) opn2 (opnF_cons (by kernel_rfl) opn26 (opnF_cons (by kernel_rfl) opn3 (opnF_cons (by kernel_rfl) opn72 opnF_nil))))
set_option maxRecDepth 100000 in
theorem opn31 : Opn Tryz.prog 31 Go.Proofs.YtifalphladcdcaaGreat.H.pred31 := opn_slice Tryz.underlying31 (by kernel_rfl) (by kernel_rfl) (by decide) opn108
set_option maxRecDepth 100000 in
theorem opn32 : Opn Tryz.prog 32 Go.Proofs.YtifalphladcdcaaGreat.H.pred32 := opn_slice Tryz.underlying32 (by kernel_rfl) (by kernel_rfl) (by decide) opn2
set_option maxRecDepth 100000 in
theorem opn34 : Opn Tryz.prog 34 Go.Proofs.YtifalphladcdcaaGreat.H.pred34 := opn_struct Tryz.underlying34 (by kernel_rfl) (opnF_cons (by kernel_rfl) opn3 (opnF_cons (by kernel_rfl) opn3 (opnF_cons (by kernel_rfl) opn23 (opnF_cons (by kernel_rfl) opn23 (opnF_cons (by kernel_rfl) opn24 (opnF_cons (by kernel_rfl) opn4 (opnF_cons (by kernel_rfl) opn3 (opnF_cons (by kernel_rfl) opn30 (opnF_cons (by kernel_rfl) opn31 (opnF_cons (by kernel_rfl) opn4 (opnF_cons (by kernel_rfl) opn23 (opnF_cons (by kernel_rfl) opn26 (opnF_cons (by kernel_rfl) opn3 (opnF_cons (by kernel_rfl) opn32 (opnF_cons (by kernel_rfl) opn23 (opnF_cons (by kernel_rfl) opn23 opnF_nil))))))))))))))))
set_option maxRecDepth 100000 in
theorem lifted (os : Os) (started : os.Started) (H : Type) (enc : TypeId × Value → H) :
    ReturnsInHanded {} Tryz.checked os 3 .any (Rows.shapeTellsSpec.pre6 enc Tryz.prog Tryz.f3 Rows.shapeTellsRow.domain false) (Rows.shapeTellsSpec.post enc Tryz.prog Tryz.f3 false true false false) := by
  refine returnsInHanded_of_change_sized (C := Tryz.checked) own started (by kernel_rfl) Tryz.func3
    (ChangeSpec.witness6 (enc := enc) (C := Tryz.checked) false ⟨#[], #[.slice none 0 0, .int .i64 0, .int .i64 0, .int .i64 0, .int .i64 0, .agg #[.int .i64 0, .int .i64 0, .slice none 0 0, .slice none 0 0, .slice none 0 0, .bool false, .int .i64 0, .int .i64 0, .int .u8 0, .int .u8 0, .int .u8 0, .int .u8 0, .int .u8 0, .int .u8 0, .int .u8 0, .int .u8 0, .int .i64 0, .int .i64 0, .int .i64 0, .int .i64 0, .int .i64 0, .slice none 0 0, .bool false, .slice none 0 0, .int .u8 0, .int .u8 0, .int .u8 0, .int .u8 0, .int .i64 0, .slice none 0 0, .slice none 0 0, .slice none 0 0], .int .i64 0], []⟩ 8 (by kernel_rfl) (by kernel_rfl) (by kernel_rfl) (by kernel_rfl)) ?_
  intro W base args ds gs before hval0 hW hcnd hsz0 _
  have hval : ∀ (j : Nat) t v, Tryz.f3.params[j]? = some t → args[j]? = some v → Value.okWide Tryz.prog W .any base t v := hval0
  have hW' := hW
  obtain ⟨p, q, hA0, hV, rfl, hfz, hnd⟩ := hW
  have hA : DataW.TrodAll enc Tryz.prog W 0 (fun _ => true) true Tryz.f3.params.toList args.toList ds p := hA0
  rw [Tryz.params3] at hA hval
  obtain ⟨v0, vs0, d0, ds0, p0, q0, hargs, rfl, rfl, h0, r0⟩ := trodAll_cons hA
  obtain ⟨v1, vs1, d1, ds1, p1, q1, rfl, rfl, rfl, h1, r1⟩ := trodAll_cons r0
  obtain ⟨v2, vs2, d2, ds2, p2, q2, rfl, rfl, rfl, h2, r2⟩ := trodAll_cons r1
  obtain ⟨v3, vs3, d3, ds3, p3, q3, rfl, rfl, rfl, h3, r3⟩ := trodAll_cons r2
  obtain ⟨v4, vs4, d4, ds4, p4, q4, rfl, rfl, rfl, h4, r4⟩ := trodAll_cons r3
  obtain ⟨v5, vs5, d5, ds5, p5, q5, rfl, rfl, rfl, h5, r5⟩ := trodAll_cons r4
  obtain ⟨v6, vs6, d6, ds6, p6, q6, rfl, rfl, rfl, h6, r6⟩ := trodAll_cons r5
  obtain ⟨rfl, rfl, rfl⟩ := trodAll_nil r6
  obtain rfl : args = #[v0, v1, v2, v3, v4, v5, v6] := by cases args; simp_all
  obtain ⟨rfl, rfl⟩ := trodVars_none hV
  have k0 := h0
  have lt0 : ∀ x ∈ p0, x.block < W.heap.size := by obtain ⟨m, hm⟩ := k0; exact DataW.trod_lt m _ _ _ hm
  obtain ⟨A0, len0, cap0, rfl⟩ := okWide_slice Tryz.underlying22 (hval 0 22 v0 rfl rfl)
  obtain ⟨fuel0, hf0⟩ := h0
  obtain ⟨us0, e0, hp0, xs0, rfl, hl0, g0⟩ := opn22 fuel0 _ _ hf0 (lite_of hsz0 (j := 0) (by rfl) (by rfl))
  obtain ⟨a1, rfl, rfl, rfl, w1⟩ := open_int Tryz.underlying2 (hval 1 2 v1 rfl rfl) h1
  obtain ⟨a2, rfl, rfl, rfl, w2⟩ := open_int Tryz.underlying2 (hval 2 2 v2 rfl rfl) h2
  obtain ⟨a3, rfl, rfl, rfl, w3⟩ := open_int Tryz.underlying2 (hval 3 2 v3 rfl rfl) h3
  obtain ⟨a4, rfl, rfl, rfl, w4⟩ := open_int Tryz.underlying3 (hval 4 3 v4 rfl rfl) h4
  have k5 := h5
  have lt5 : ∀ x ∈ p5, x.block < W.heap.size := by obtain ⟨m, hm⟩ := k5; exact DataW.trod_lt m _ _ _ hm
  obtain ⟨cs5, rfl, _⟩ := okWide_struct Tryz.underlying34 (hval 5 34 v5 rfl rfl)
  obtain ⟨fuel5, hf5⟩ := h5
  obtain ⟨us5, e5, hp5, g5⟩ := opn34 fuel5 _ _ hf5 (lite_of hsz0 (j := 5) (by rfl) (by rfl))
  obtain ⟨a6, rfl, rfl, rfl, w6⟩ := open_int Tryz.underlying3 (hval 6 3 v6 rfl rfl) h6
  clear hA0 hval0 hsz0
  refine (open_argsU VT.X_ok VT.mixed Go.Proofs.YtifalphladcdcaaGreat.H.os0 (Go.Proofs.YtifalphladcdcaaGreat.H.shapeTells_call hl0 g0 a1 a2 a3 a4 g5 a6) W #[.slice A0 len0 cap0, .int .i64 a1, .int .i64 a2, .int .i64 a3, .int .i64 a4, .agg cs5, .int .i64 a6] (by exact And.intro (AR.leaf (.pr (hp0 0 _ _ rfl rfl))) (And.intro (AR.leaf (.pr (.int _ _))) (And.intro (AR.leaf (.pr (.int _ _))) (And.intro (AR.leaf (.pr (.int _ _))) (And.intro (AR.leaf (.pr (.int _ _))) (And.intro (arg_agg e5 hp5) (And.intro (AR.leaf (.pr (.int _ _))) (trivial))))))))).mono fun e W' ⟨he, bel⟩ => ?_
  subst he
  exact ⟨_, rfl, _, _, _, [], _, [], hW', trodAll_mk1 (shut_bool Tryz.underlying4 _), (trodAll_cons_mk (Below.trod laidOut (by kernel_rfl) (of_decide_eq_true (by kernel_rfl)) k0 bel lt0) (trodAll_cons_mk (shut_int Tryz.underlying2 w1) (trodAll_cons_mk (shut_int Tryz.underlying2 w2) (trodAll_cons_mk (shut_int Tryz.underlying2 w3) (trodAll_cons_mk (shut_int Tryz.underlying3 w4) (trodAll_cons_mk (Below.trod laidOut (by kernel_rfl) (of_decide_eq_true (by kernel_rfl)) k5 bel lt5) (trodAll_cons_mk (shut_int Tryz.underlying3 w6) trodAll_mk0))))))), rfl, bel.frame _, fun h => by cases h⟩
theorem over : Rows.shapeTellsRow.holds Tryz.pinned (OpenSpec.ofChange Rows.shapeTellsSpec) :=
  OpenClaim.holds_of_wide 3 Tryz.f3 rfl rfl rfl rfl rfl rfl rfl ⟨rfl, rfl, rfl, rfl, rfl⟩ rfl rfl rfl rfl rfl (by kernel_rfl) Tryz.func3 Go.Proofs.YtifalphladcdcaaGreat.JshapeTells.closed
    (of_decide_eq_true (by kernel_rfl)) (by unfold Func.isWrapper; first | (rw [if_pos (by decide +kernel)]; kernel_rfl) | (rw [if_neg (by decide +kernel)]; exact ⟨rfl, rfl⟩))
    (fun os started H enc _ => lifted os started H enc)
theorem proved : Rows.ShapeTellsSaid := over
#print axioms proved
end Go.Proofs.YtifalphladcdcaaGreat.shapeTells
namespace Go.Proofs.YtifalphladcdcaaGreat
/-- The row, under a short name, for the claim. -/
theorem shapeTells_holds : Rows.ShapeTellsSaid := shapeTells.proved
end Go.Proofs.YtifalphladcdcaaGreat
