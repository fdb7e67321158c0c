/- The machine over plain values: a slice that is copied, be it nil or not. No condition beyond those stated. -/
import Derived.Test.YtifalphladcdcaaGreatVmAN
set_option linter.unusedVariables false
set_option linter.unusedSimpArgs false
namespace Go.VM

/-- A copy of a slice of which it is not known whether it is nil: of each such function the elements' size in cells, in bytes. -/
def cloneO (tab : List (Nat × Nat × Nat)) : Oracle := fun f args σ => match tab.find? (fun e => Nat.beq e.1 f) with
  | none => none
  | some e => match args, σ with
    | [.list sz xs], [] => (match Nat.beq sz e.2.1 with
      | true => if xs.length * e.2.2 ≤ 140737488355328 ∧ xs.length ≤ 140737488355328 then some (.hs 0 0 xs.length, [.cells true true sz xs]) else none
      | false => none)
    | _, _ => none

theorem call_oracle {P : Program} {X : Cx} {O : Oracle} {N n f : Nat} {args : List V} {σ : Store} {r : V × Store} (h : O f args σ = some r) : call P X O N (n + 1) f args σ = some r := by
  simp only [call, h]

theorem cloneO_eq {tab : List (Nat × Nat × Nat)} {f sz by_ : Nat} (h : tab.find? (fun e => Nat.beq e.1 f) = some (f, sz, by_)) (xs : List (List V)) (hb : xs.length * by_ ≤ 140737488355328 ∧ xs.length ≤ 140737488355328) :
    cloneO tab f [.list sz xs] [] = some (.hs 0 0 xs.length, [.cells true true sz xs]) := by
  have e : Nat.beq sz sz = true := Nat.beq_refl sz
  simp only [cloneO, h, e, if_pos hb]

theorem os_clone {P : Program} {X : Cx} (hX : X.OK P) (hm : P.follows .mixedOrders = true) {N : Nat} {tab : List (Nat × Nat × Nat)}
    (hA : ∀ e ∈ tab, call P X (fun _ _ _ => none) N 1 e.1 [.nilS] [] = some (.hs 0 0 0, [.cells true true e.2.1 []]) ∧ call P X (fun _ _ _ => none) N 1 e.1 [.ne] [] = some (.hs 0 0 0, [.cells true true e.2.1 []]))
    (hB : ∀ e ∈ tab, ∀ xs : List (List V), 0 < xs.length → 0 ≤ 0 ∧ (0 + xs.length) * e.2.2 ≤ 140737488355328 ∧ 0 + xs.length ≤ 140737488355328 → call P X (fun _ _ _ => none) N 1 e.1 [.list e.2.1 xs] [] = some (.hs 0 0 (0 + xs.length), [.cells true true e.2.1 ([] ++ xs)])) :
    OS P (cloneO tab) := by
  intro f args σ r σ' h D Γ w vals hs hl hv
  unfold cloneO at h
  split at h
  · cases h
  · rename_i e he
    have hmem := List.mem_of_find?_eq_some he
    have hf : e.1 = f := Nat.eq_of_beq_eq_true (List.find?_some (p := fun (e : Nat × Nat × Nat) => Nat.beq e.1 f) he)
    subst hf
    split at h
    · rename_i sz xs
      split at h
      · rename_i hsz
        have := Nat.eq_of_beq_eq_true hsz
        subst this
        split at h
        · rename_i hb
          cases h
          obtain ⟨x0, hx0⟩ : ∃ x, vals = #[x] := by
            have h1 : vals.size = 1 := by simpa using hl
            exact ⟨vals[0], by
              apply Array.ext
              · simpa using h1
              · intro i h2 h3
                have : i = 0 := by omega
                subst this; rfl⟩
          subst hx0
          have hv0 := hv 0 _ x0 rfl rfl
          have one : ∀ (c : V), AR D Γ w.heap c x0 → ∀ (k : Nat) (c' : V) (v : Value), [c][k]? = some c' → #[x0][k]? = some v → AR D Γ w.heap c' v := by
            intro c hc k c' v h1 h2
            cases k with
            | zero => simp at h1 h2; subst h1; subst h2; exact hc
            | succ k => simp at h1
          by_cases hx : xs.length = 0
          · have hx : xs = [] := List.eq_nil_of_length_eq_zero hx
            subst hx
            obtain ⟨a1, a2⟩ := hA e hmem
            have alt : AR D Γ w.heap .nilS x0 ∨ AR D Γ w.heap .ne x0 := by
              cases hv0 with
              | leaf h => cases h with
                | pr h => cases h with
                  | list0 _ a cap h =>
                    cases a with
                    | none => rw [h rfl]; exact .inl (.leaf (.pr .nilS))
                    | some a => exact .inr (.leaf (.pr (.ne a cap)))
                  | list => exact .inr (.leaf (.pr (.ne _ _)))
            rcases alt with h1 | h1
            · exact call_ok hX hm (os_none P) N 1 e.1 _ _ _ _ a1 D Γ w #[x0] hs rfl (one _ h1)
            · exact call_ok hX hm (os_none P) N 1 e.1 _ _ _ _ a2 D Γ w #[x0] hs rfl (one _ h1)
          · have := hB e hmem xs (by omega) (by rw [Nat.zero_add]; exact ⟨Nat.le_refl _, hb⟩)
            rw [Nat.zero_add, List.nil_append] at this
            exact call_ok hX hm (os_none P) N 1 e.1 _ _ _ _ this D Γ w #[x0] hs rfl (one _ hv0)
        · cases h
      · cases h
    · cases h
end Go.VM
