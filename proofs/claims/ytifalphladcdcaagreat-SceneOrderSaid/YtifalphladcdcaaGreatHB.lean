/- Short forms of what functions, loops and joins of this program come to. No condition beyond those stated. -/
import Derived.Test.YtifalphladcdcaaGreatHA
import Derived.Test.YtifalphladcdcaaGreatVmAS
set_option linter.unusedVariables false
set_option linter.unusedSimpArgs false
namespace Go.Proofs.YtifalphladcdcaaGreat.H
open Go Go.VM
abbrev FU (E : Ent (V × Store)) (v : Option E.ty) (f : Nat) (args : List V) (σ : Store := []) : Prop := FK Tryz.prog X O0 E v f args σ
abbrev LU (f m : Nat) (B : Code) (w : Nat) (E : Ent (VX × S)) (L : Nat → E.ty → Option E.ty) : Prop := LK Tryz.prog X O0 f m B w E L
abbrev CU (f m : Nat) (B : Code) (j : Nat) (E : Ent (VX × S)) (v : Option E.ty) (s : S) : Prop := CK Tryz.prog X O0 f m B j E v s
abbrev BU (f m : Nat) (B : Code) (j : Nat) (E : Ent (VX × S)) (v : Option E.ty) (s : S) : Prop := BK Tryz.prog X O0 f m B j E v s
theorem fu {f : Nat} {fi : FI} {args : List V} {σ : Store} {E : Ent (V × Store)} {d : PT E.ty} (ho : O0 f args σ = none) (hf : X.fn f = some fi)
    (h : ∀ x, PT.evP E.out x d = PT.fol E.out x d (callL Tryz.prog X (notIn []) CC 18446744073709551616 f fi args σ)) : FU E (d.ev some) f args σ := fk ho hf h
end Go.Proofs.YtifalphladcdcaaGreat.H
