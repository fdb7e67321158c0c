/- The statement, from its parts. -/
import Derived.Test.YtejnbjclcdmopaaRows
import Derived.WalkKit
import Derived.ProofKit
import Derived.OpenShut
import Derived.ShutString
import Derived.ChangeOld
import Derived.Below
import Derived.SizedLaws
import Derived.Carry
import Derived.Test.YtejnbjclcdmopaaZKeyShifts5

namespace Go.Proofs.Ytejnbjclcdmopaa.keyShifts
open Go.ChangeShapes Go.WideShapes Go.ChangeAt Go.RowKit Go.Proofs.Ytejnbjclcdmopaa.PA Go.Proofs.Ytejnbjclcdmopaa.MO Go.Proofs.YtejnbjclcdmopaaW.PrintWords Go.Proofs.YtejnbjclcdmopaaW.PrintLast
open Go.ChangeMaps (open_string shut_string)
set_option linter.unusedVariables false
theorem own : ownKnob Try.prog.godebug = none := by kernel_rfl
theorem laidOut : laidOutB Try.prog = true := by kernel_rfl
theorem opn2 : Opn Try.prog 2 (Kd.int .i64) (fun x_ => (Lit.int .i64 x_).wf = true) := opn_int Try.underlying2
theorem opn3 : Opn Try.prog 3 (Kd.int .i64) (fun x_ => (Lit.int .i64 x_).wf = true) := opn_int Try.underlying3
theorem opn23 : Opn Try.prog 23 k23 (fun x_ => ((Lit.int .i64 x_.f0).wf = true) ∧ ((Lit.int .i64 x_.f1).wf = true) ∧ ((Lit.int .i64 x_.f2).wf = true) ∧ ((Lit.int .i64 x_.f3).wf = true)) := opn_iso (opn_struct Try.underlying23 (by kernel_rfl) (opnF_cons (by kernel_rfl) (by kernel_rfl) opn2 (opnF_cons (by kernel_rfl) (by kernel_rfl) opn2 (opnF_cons (by kernel_rfl) (by kernel_rfl) opn2 (opnF_one (by kernel_rfl) (by kernel_rfl) opn2))))) _ (fun p_ => ⟨p_.1, p_.2.1, p_.2.2.1, p_.2.2.2⟩) (fun _ => rfl) _ (fun _ h_ => h_)
theorem opn34 : Opn Try.prog 34 k34 (fun x_ => ((Lit.int .i64 x_.f0).wf = true) ∧ ((Lit.int .i64 x_.f1).wf = true) ∧ ((Lit.int .i64 x_.f2).wf = true) ∧ (((Lit.int .i64 x_.f3.f0).wf = true) ∧ ((Lit.int .i64 x_.f3.f1).wf = true) ∧ ((Lit.int .i64 x_.f3.f2).wf = true) ∧ ((Lit.int .i64 x_.f3.f3).wf = true))) := opn_iso (opn_struct Try.underlying34 (by kernel_rfl) (opnF_cons (by kernel_rfl) (by kernel_rfl) opn2 (opnF_cons (by kernel_rfl) (by kernel_rfl) opn2 (opnF_cons (by kernel_rfl) (by kernel_rfl) opn3 (opnF_one (by kernel_rfl) (by kernel_rfl) opn23))))) _ (fun p_ => ⟨p_.1, p_.2.1, p_.2.2.1, p_.2.2.2⟩) (fun _ => rfl) _ (fun _ h_ => h_)
theorem opn31 : Opn Try.prog 31 (Kd.slice 34 k34) (fun x_ => x_.length ≤ maxLen ∧ ∀ y_, y_ ∈ x_ → ((Lit.int .i64 y_.f0).wf = true) ∧ ((Lit.int .i64 y_.f1).wf = true) ∧ ((Lit.int .i64 y_.f2).wf = true) ∧ (((Lit.int .i64 y_.f3.f0).wf = true) ∧ ((Lit.int .i64 y_.f3.f1).wf = true) ∧ ((Lit.int .i64 y_.f3.f2).wf = true) ∧ ((Lit.int .i64 y_.f3.f3).wf = true))) := opn_slice Try.underlying31 (by kernel_rfl) opn34
set_option maxRecDepth 100000 in
theorem lifted (os : Os) (started : os.Started) (H : Type) (enc : TypeId × Value → H) :
    ReturnsInHanded {} Try.checked os 8 .any (Rows.keyShiftsSpec.pre6 enc Try.prog Try.f8 Rows.keyShiftsRow.domain false) (Rows.keyShiftsSpec.post enc Try.prog Try.f8 false true false false) := by
  refine returnsInHanded_of_change_sized (C := Try.checked) own started (by kernel_rfl) Try.func8
    (ChangeSpec.witness6 (enc := enc) (C := Try.checked) false ⟨#[], #[.slice none 0 0, .int .i64 0, .int .i64 0, .int .i64 0], []⟩ 8 (by kernel_rfl) (by kernel_rfl) (by kernel_rfl) (by kernel_rfl)) ?_
  intro W base args ds gs before hval0 hW hcnd hsz0 _
  have hsz : (DataW.weightsEach Try.prog (Try.f8.params.toList ++ Rows.keyShiftsSpec.plain.varTypes Try.prog) (ds ++ gs)).all (· ≤ reachBytes) = true := hsz0
  have hval : ∀ (j : Nat) t v, Try.f8.params[j]? = some t → args[j]? = some v → Value.okWide Try.prog W .any base t v := hval0
  have hW' := hW
  obtain ⟨p, q, hA0, hV, rfl, hfz, hnd⟩ := hW
  have hA : DataW.TrodAll enc Try.prog W 0 (fun _ => true) true Try.f8.params.toList args.toList ds p := hA0
  rw [Try.params8] at hA hval hsz
  obtain ⟨v0, vs0, d0, ds0, p0, q0, hargs, rfl, rfl, h0, r0⟩ := trodAll_cons hA
  obtain ⟨v1, vs1, d1, ds1, p1, q1, rfl, rfl, rfl, h1, r1⟩ := trodAll_cons r0
  obtain ⟨v2, vs2, d2, ds2, p2, q2, rfl, rfl, rfl, h2, r2⟩ := trodAll_cons r1
  obtain ⟨v3, vs3, d3, ds3, p3, q3, rfl, rfl, rfl, h3, r3⟩ := trodAll_cons r2
  obtain ⟨rfl, rfl, rfl⟩ := trodAll_nil r3
  obtain rfl : args = #[v0, v1, v2, v3] := by cases args; simp_all
  obtain ⟨rfl, rfl⟩ := trodVars_none hV
  have k0 := h0
  have lt0 : ∀ x ∈ p0, x.block < W.heap.size := by obtain ⟨m, hm⟩ := k0; exact DataW.trod_lt m _ _ _ hm
  obtain ⟨a0, len0, cap0, rfl⟩ := okWide_slice Try.underlying31 (hval 0 31 v0 rfl rfl)
  obtain ⟨x0, hK0, g0⟩ : ∃ x, (Kd.slice 34 k34).K W x [.slice a0 len0 cap0] ∧ x.length ≤ maxLen ∧ ∀ y_, y_ ∈ x → ((Lit.int .i64 y_.f0).wf = true) ∧ ((Lit.int .i64 y_.f1).wf = true) ∧ ((Lit.int .i64 y_.f2).wf = true) ∧ (((Lit.int .i64 y_.f3.f0).wf = true) ∧ ((Lit.int .i64 y_.f3.f1).wf = true) ∧ ((Lit.int .i64 y_.f3.f2).wf = true) ∧ ((Lit.int .i64 y_.f3.f3).wf = true)) := by obtain ⟨fuel, hf⟩ := h0; exact opn31 fuel _ _ hf
  obtain ⟨A0, c0, e0, hc0, hr0⟩ := hK0
  obtain ⟨rfl, rfl, rfl⟩ : a0 = A0 ∧ len0 = x0.length ∧ cap0 = c0 := by simpa using e0
  clear e0
  obtain ⟨a1, rfl, rfl, rfl, w1⟩ := open_int Try.underlying2 (hval 1 2 v1 rfl rfl) h1
  obtain ⟨a2, rfl, rfl, rfl, w2⟩ := open_int Try.underlying2 (hval 2 2 v2 rfl rfl) h2
  obtain ⟨a3, rfl, rfl, rfl, w3⟩ := open_int Try.underlying2 (hval 3 2 v3 rfl rfl) h3
  clear hA0 hval0 hsz0 hsz
  obtain ⟨k, hk⟩ := Pure.KeyShifts x0 a1 a2 a3 g0 w1 w2 w3
  refine (mutoscopelaw5_KeyShifts.calls k _ _ x0 a1 a2 a3 true W hr0 hc0 hk).mono fun e W' ⟨he, bel0⟩ => ?_
  have bel : Below W.heap.size W W' := bel0
  subst he
  exact ⟨_, rfl, _, _, _, [], _, [], hW', trodAll_mk1 (shut_bool Try.underlying4 _), (trodAll_cons_mk (Below.trod laidOut (by kernel_rfl) (of_decide_eq_true (by kernel_rfl)) k0 bel lt0) (trodAll_cons_mk (shut_int Try.underlying2 w1) (trodAll_cons_mk (shut_int Try.underlying2 w2) (trodAll_cons_mk (shut_int Try.underlying2 w3) trodAll_mk0)))), rfl, bel.frame _, fun h => by cases h⟩
theorem over : Rows.keyShiftsRow.holds Try.pinned (OpenSpec.ofChange Rows.keyShiftsSpec) :=
  OpenClaim.holds_of_wide 8 Try.f8 rfl rfl rfl rfl rfl rfl rfl ⟨rfl, rfl, rfl, rfl, rfl⟩ rfl rfl rfl rfl rfl (by kernel_rfl) Try.func8 (by kernel_rfl)
    (of_decide_eq_true (by kernel_rfl)) (by unfold Func.isWrapper; first | (rw [if_pos (by decide +kernel)]; kernel_rfl) | (rw [if_neg (by decide +kernel)]; exact ⟨rfl, rfl⟩))
    (fun os started H enc _ => lifted os started H enc)
theorem proved : Rows.KeyShiftsSaid := over
#print axioms proved
end Go.Proofs.Ytejnbjclcdmopaa.keyShifts
namespace Go.Proofs.Ytejnbjclcdmopaa
theorem keyShifts_holds : Rows.KeyShiftsSaid := keyShifts.proved
end Go.Proofs.Ytejnbjclcdmopaa
