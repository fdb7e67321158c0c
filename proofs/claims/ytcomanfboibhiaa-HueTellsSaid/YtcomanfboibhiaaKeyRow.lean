/- What a list of colours' keys is, laid open. No condition beyond those stated. -/
import Derived.Test.YtcomanfboibhiaaRowsR4
import Derived.Test.YtcomanfboibhiaaWk
import Derived.ProofKit
import Derived.OpenShut
set_option linter.unusedVariables false
set_option linter.unusedSimpArgs false
namespace Go.Proofs.Ytcomanfboibhiaa.H
open Go Go.VM
abbrev Rw (ks : List W33) : List (List V) := ks.map W33.cells
def In64 (n : Int) : Prop := -9223372036854775808 ≤ n ∧ n ≤ 9223372036854775807
def In8 (n : Int) : Prop := 0 ≤ n ∧ n ≤ 255
structure KeyOk (k : W33) : Prop where
  t : In64 k.c0
  c : In8 k.c1 ∧ In8 k.c2 ∧ In8 k.c3 ∧ In8 k.c4
  h : In64 k.c5
  e : In64 k.c6 ∧ In64 k.c7 ∧ In64 k.c8 ∧ In64 k.c9
theorem key_row {x : List V} (g : ((fun y => ∃ a b, y = a ++ b ∧ ((fun y => ∃ z, y = [V.int .i64 z] ∧ (Lit.int .i64 z).wf = true) a) ∧ ((fun y => ∃ a b, y = a ++ b ∧ ((fun y => y.length = 4 ∧ ∀ x ∈ y, (fun y => ∃ z, y = [V.int .u8 z] ∧ (Lit.int .u8 z).wf = true) [x]) a) ∧ ((fun y => ∃ a b, y = a ++ b ∧ ((fun y => ∃ z, y = [V.int .i64 z] ∧ (Lit.int .i64 z).wf = true) a) ∧ ((fun y => ∃ a b, y = a ++ b ∧ ((fun y => ∃ a b, y = a ++ b ∧ ((fun y => ∃ z, y = [V.int .i64 z] ∧ (Lit.int .i64 z).wf = true) a) ∧ ((fun y => ∃ a b, y = a ++ b ∧ ((fun y => ∃ z, y = [V.int .i64 z] ∧ (Lit.int .i64 z).wf = true) a) ∧ ((fun y => ∃ a b, y = a ++ b ∧ ((fun y => ∃ z, y = [V.int .i64 z] ∧ (Lit.int .i64 z).wf = true) a) ∧ ((fun y => ∃ a b, y = a ++ b ∧ ((fun y => ∃ z, y = [V.int .i64 z] ∧ (Lit.int .i64 z).wf = true) a) ∧ ((fun y => y = []) b)) b)) b)) b)) a) ∧ ((fun y => y = []) b)) b)) b)) b)) x)) : ∃ k : W33, x = k.cells ∧ KeyOk k := by
  obtain ⟨_, _, rfl, ⟨z0, rfl, w0⟩, cs, _, rfl, ⟨hc, hg⟩, _, _, rfl, ⟨z5, rfl, w5⟩, _, _, rfl, ⟨_, _, rfl, ⟨z6, rfl, w6⟩, _, _, rfl, ⟨z7, rfl, w7⟩, _, _, rfl, ⟨z8, rfl, w8⟩, _, _, rfl, ⟨z9, rfl, w9⟩, rfl⟩, rfl⟩ := g
  match cs, hc with
  | [x, y, z, u], _ =>
    obtain ⟨a, ha, wa⟩ := hg x (by simp)
    obtain ⟨b, hb, wb⟩ := hg y (by simp)
    obtain ⟨c, hc, wc⟩ := hg z (by simp)
    obtain ⟨d, hd, wd⟩ := hg u (by simp)
    cases ha; cases hb; cases hc; cases hd
    exact ⟨⟨z0, a, b, c, d, z5, z6, z7, z8, z9⟩, rfl, bounds_i64 w0, ⟨bounds_u8 wa, bounds_u8 wb, bounds_u8 wc, bounds_u8 wd⟩, bounds_i64 w5, bounds_i64 w6, bounds_i64 w7, bounds_i64 w8, bounds_i64 w9⟩
theorem key_rows : ∀ {xs : List (List V)}, (∀ x ∈ xs, x.length = 10 ∧ ((fun y => ∃ a b, y = a ++ b ∧ ((fun y => ∃ z, y = [V.int .i64 z] ∧ (Lit.int .i64 z).wf = true) a) ∧ ((fun y => ∃ a b, y = a ++ b ∧ ((fun y => y.length = 4 ∧ ∀ x ∈ y, (fun y => ∃ z, y = [V.int .u8 z] ∧ (Lit.int .u8 z).wf = true) [x]) a) ∧ ((fun y => ∃ a b, y = a ++ b ∧ ((fun y => ∃ z, y = [V.int .i64 z] ∧ (Lit.int .i64 z).wf = true) a) ∧ ((fun y => ∃ a b, y = a ++ b ∧ ((fun y => ∃ a b, y = a ++ b ∧ ((fun y => ∃ z, y = [V.int .i64 z] ∧ (Lit.int .i64 z).wf = true) a) ∧ ((fun y => ∃ a b, y = a ++ b ∧ ((fun y => ∃ z, y = [V.int .i64 z] ∧ (Lit.int .i64 z).wf = true) a) ∧ ((fun y => ∃ a b, y = a ++ b ∧ ((fun y => ∃ z, y = [V.int .i64 z] ∧ (Lit.int .i64 z).wf = true) a) ∧ ((fun y => ∃ a b, y = a ++ b ∧ ((fun y => ∃ z, y = [V.int .i64 z] ∧ (Lit.int .i64 z).wf = true) a) ∧ ((fun y => y = []) b)) b)) b)) b)) a) ∧ ((fun y => y = []) b)) b)) b)) b)) x)) → ∃ ks : List W33, xs = Rw ks ∧ ∀ k ∈ ks, KeyOk k
  | [], _ => ⟨[], rfl, fun k hk => by simp at hk⟩
  | x :: xs, h => by
    obtain ⟨k, rfl, hk⟩ := key_row (h x (by simp)).2
    obtain ⟨ks, rfl, hks⟩ := key_rows (fun y hy => h y (List.mem_cons_of_mem _ hy))
    exact ⟨k :: ks, rfl, fun a ha => by
      rcases List.mem_cons.1 ha with rfl | ha
      · exact hk
      · exact hks a ha⟩
end Go.Proofs.Ytcomanfboibhiaa.H
