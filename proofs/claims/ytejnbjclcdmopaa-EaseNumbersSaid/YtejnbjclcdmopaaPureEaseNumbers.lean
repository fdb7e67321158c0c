/- Plain law, no machine: the printed closed sentence EaseNumbers answers true: its loops end, and each comparison in them is true at any input. No condition. -/
import Derived.Test.YtejnbjclcdmopaaMSame4
import Derived.Test.YtejnbjclcdmopaaMKnown4
import Derived.Test.YtejnbjclcdmopaaPAx16
set_option linter.unusedVariables false
namespace Go.Proofs.Ytejnbjclcdmopaa.Pure
open Go.RowKit Go.Proofs.Ytejnbjclcdmopaa.PA Go.Proofs.YtejnbjclcdmopaaW.PrintWords Go.Proofs.YtejnbjclcdmopaaW.PrintLast Go.Proofs.YtejnbjclcdmopaaW.PrintMore Go.Proofs.Ytejnbjclcdmopaa.MB

theorem en_l5 (x7 : List Int) (x8 x9 x53 x54 x59 : Int) (h8 : 0 ≤ x8 ∧ x8 < (x7.length : Int)) (h9 : 0 ≤ x9 ∧ x9 < (x7.length : Int)) (hn : (x7.length : Int) ≤ 1000)
    (hc : Evt fun k => mutoscopelaw4_EaseNumbers.l4 k x7 x8 x53 x54 (x7.length : Int) (wrap64 (x59 + 1)) = some true) :
    ∀ (d : Nat) (x64 : Int), 0 ≤ x64 → x64 + d = (x7.length : Int) → Evt fun k => mutoscopelaw4_EaseNumbers.l5 k x7 x8 x9 x53 x54 (x7.length : Int) x59 (x7.length : Int) x64 = some true := by
  intro d
  induction d with
  | zero => intro i h0 h1; exact hc.succ fun k h => by simp only [mutoscopelaw4_EaseNumbers.l5]; rw [if_neg (by omega)]; exact h
  | succ d ih =>
    intro i h0 h1
    refine (ih (i + 1) (by omega) (by omega)).succ fun k h => ?_
    simp only [mutoscopelaw4_EaseNumbers.l5]
    rw [if_pos (by omega), if_pos h8.1, if_pos h8.2, if_pos h9.1, if_pos h9.2, if_pos h0, if_pos (by omega), ease_Part_eq, r5_Part_eq]
    simp only [Option.bind_some, if_true]
    rw [w64 (by omega) (by omega)]; exact h
theorem en_l4 (x7 : List Int) (x8 x53 x54 : Int) (h8 : 0 ≤ x8 ∧ x8 < (x7.length : Int)) (hn : (x7.length : Int) ≤ 1000)
    (hc : Evt fun k => mutoscopelaw4_EaseNumbers.l3 k x7 x53 (wrap64 (x54 + 1)) = some true) :
    ∀ (d : Nat) (x59 : Int), 0 ≤ x59 → x59 + d = (x7.length : Int) → Evt fun k => mutoscopelaw4_EaseNumbers.l4 k x7 x8 x53 x54 (x7.length : Int) x59 = some true := by
  intro d
  induction d with
  | zero => intro i h0 h1; exact hc.succ fun k h => by simp only [mutoscopelaw4_EaseNumbers.l4]; rw [if_neg (by omega)]; exact h
  | succ d ih =>
    intro i h0 h1
    have h := ih (i + 1) (by omega) (by omega)
    refine (en_l5 x7 x8 i x53 x54 i h8 (by omega) hn (by rw [w64 (by omega) (by omega)]; exact h) x7.length 0 (by omega) (by omega)).succ fun k h => ?_
    simp only [mutoscopelaw4_EaseNumbers.l4]
    rw [if_pos (by omega)]; exact h
theorem en_l3 (x7 : List Int) (hn : (x7.length : Int) ≤ 1000) :
    ∀ (d : Nat) (x54 : Int), 0 ≤ x54 → x54 + d = (x7.length : Int) → Evt fun k => mutoscopelaw4_EaseNumbers.l3 k x7 (x7.length : Int) x54 = some true := by
  intro d
  induction d with
  | zero =>
    intro i h0 h1
    exact (Evt.of (p := fun k => 18 ≤ k) 18 fun k h => h).succ fun k h => by simp only [mutoscopelaw4_EaseNumbers.l3]; rw [if_neg (by omega), known4 h]; rfl
  | succ d ih =>
    intro i h0 h1
    have h := ih (i + 1) (by omega) (by omega)
    refine (en_l4 x7 i (x7.length : Int) i (by omega) hn (by rw [w64 (by omega) (by omega)]; exact h) x7.length 0 (by omega) (by omega)).succ fun k h => ?_
    simp only [mutoscopelaw4_EaseNumbers.l3]
    rw [if_pos (by omega)]; exact h
theorem en_l2 (x2 : Int) (x11 : List Int) (x12 x13 : Int) (x17 : List Int) (x18 x19 a b c e : Int)
    (hc : Evt fun k => mutoscopelaw4_EaseNumbers.l1 k x2 x11 x12 x13 x17 x18 (wrap64 (x19 + 1)) = some true) :
    ∀ (d : Nat) (x6 : Int), -2 ≤ x6 → x6 + d = 67 → Evt fun k => mutoscopelaw4_EaseNumbers.l2 k x2 x6 x11 x12 x13 x17 x18 x19 a b c e = some true := by
  intro d
  induction d with
  | zero => intro i h0 h1; exact hc.succ fun k h => by simp only [mutoscopelaw4_EaseNumbers.l2]; rw [if_neg (by omega)]; exact h
  | succ d ih =>
    intro i h0 h1
    refine ((ih (i + 1) (by omega) (by omega)).and (Evt.of (p := fun k => 22 ≤ k) 22 fun k h => h)).succ fun k h => ?_
    simp only [mutoscopelaw4_EaseNumbers.l2]
    rw [if_pos (by omega), same4 h.2]
    simp only [Option.bind_some, if_true]
    rw [same4 h.2]
    simp only [Option.bind_some, if_true]
    rw [w64 (x := i + 1) (by omega) (by omega)]; exact h.1
theorem en_l1 (x2 : Int) (x11 : List Int) (x12 x13 : Int) (x17 : List Int) (hn : (x17.length : Int) ≤ 1000)
    (hc : Evt fun k => mutoscopelaw4_EaseNumbers.l0 k x11 x12 (wrap64 (x13 + 1)) = some true) :
    ∀ (d : Nat) (x19 : Int), 0 ≤ x19 → x19 + d = (x17.length : Int) → Evt fun k => mutoscopelaw4_EaseNumbers.l1 k x2 x11 x12 x13 x17 (x17.length : Int) x19 = some true := by
  intro d
  induction d with
  | zero => intro i h0 h1; exact hc.succ fun k h => by simp only [mutoscopelaw4_EaseNumbers.l1]; rw [if_neg (by omega)]; exact h
  | succ d ih =>
    intro i h0 h1
    have h := ih (i + 1) (by omega) (by omega)
    refine (en_l2 x2 x11 x12 x13 x17 (x17.length : Int) i x2 (rd x17 i) (wrap64 (65536 - x2)) (wrap64 (-(rd x17 i))) (by rw [w64 (by omega) (by omega)]; exact h) 69 (-2) (by omega) (by omega)).succ fun k h => ?_
    simp only [mutoscopelaw4_EaseNumbers.l1]
    rw [if_pos (by omega), if_pos h0, if_pos (by omega)]; exact h
theorem en_l0 (x11 : List Int) (hn : (x11.length : Int) ≤ 1000) :
    ∀ (d : Nat) (x13 : Int), 0 ≤ x13 → x13 + d = (x11.length : Int) → Evt fun k => mutoscopelaw4_EaseNumbers.l0 k x11 (x11.length : Int) x13 = some true := by
  intro d
  induction d with
  | zero =>
    intro i h0 h1
    refine (en_l3 [(-9223372036854775808), (-9223372036854775807), (-1073741824), (-1), 0, 1, 2, 7, 1073741824, 4611686018427387909, 9223372036854775807] (by decide) 11 0 (by omega) rfl).succ fun k h => ?_
    simp only [mutoscopelaw4_EaseNumbers.l0]
    rw [if_neg (by omega)]; exact h
  | succ d ih =>
    intro i h0 h1
    have h := ih (i + 1) (by omega) (by omega)
    refine (en_l1 (rd x11 i) x11 (x11.length : Int) i [(-131073), (-131072), 0, 65536, 196608, 196609, 4611686018427387904] (by decide) (by rw [w64 (by omega) (by omega)]; exact h) 7 0 (by omega) rfl).succ fun k h => ?_
    simp only [mutoscopelaw4_EaseNumbers.l0]
    rw [if_pos (by omega), if_pos h0, if_pos (by omega)]; exact h
theorem EaseNumbers : mutoscopelaw4_EaseNumbers.Pure :=
  (en_l0 [(-1), 0, 1, 21845, 65536, 65537] (by decide) 6 0 (by omega) rfl).ex
end Go.Proofs.Ytejnbjclcdmopaa.Pure
