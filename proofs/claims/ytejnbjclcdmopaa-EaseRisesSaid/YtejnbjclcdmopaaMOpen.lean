/- What came in, laid open kind by kind: a value that can be read as data is one of its kind. Over any program; no condition beyond those stated. -/
import Derived.Test.YtejnbjclcdmopaaWWords
import Derived.Deep.Slices
import Derived.Deep.Fields
import Derived.ChangeSame
import Derived.OpenShut
set_option linter.unusedVariables false
namespace Go.Proofs.Ytejnbjclcdmopaa.MO
open Go.RowKit Go.ChangeShapes Go.WideShapes Go.Deep Go.Proofs.YtejnbjclcdmopaaW.PrintWords

/-- A type whose values, as far as they can be read, are of kind d, and what is known of each. -/
def Opn {α : Type} (P : Program) (t : TypeId) (d : Kd α) (g : α → Prop) : Prop :=
  ∀ {H : Type} {enc : TypeId × Value → H} {w : World} {base : Nat} {spare : Nat → Bool} {held : Bool} (n : Nat) (cs : List Value) (x : DataW H × List MemPlace),
    DataW.trod enc P w base spare held n t cs = some x → ∃ a : α, d.K w a cs ∧ g a
theorem opn_int {P : Program} {t : TypeId} {k : IntKind} (ht : P.underlying t = some (.int k)) : Opn P t (Kd.int k) fun a => (Lit.int k a).wf = true := by
  intro H enc w base spare held n cs x h
  obtain ⟨z, rfl, _, hw⟩ := DataW.trod_int ht h
  exact ⟨z, rfl, hw⟩
theorem opn_bool {P : Program} {t : TypeId} (ht : P.underlying t = some .bool) : Opn P t Kd.bool fun _ => True := by
  intro H enc w base spare held n cs x h
  obtain ⟨b, rfl, _⟩ := DataW.trod_bool ht h
  exact ⟨b, rfl, trivial⟩
theorem opn_iso {α β : Type} {P : Program} {t : TypeId} {d : Kd α} {g : α → Prop} (h : Opn P t d g) (f : β → α) (mk : α → β) (hf : ∀ a, f (mk a) = a) (g' : β → Prop) (hg : ∀ a, g a → g' (mk a)) : Opn P t (Kd.iso d f) g' := by
  intro H enc w base spare held n cs x hx
  obtain ⟨a, ha, hga⟩ := h n cs x hx
  exact ⟨mk a, by show d.K w (f (mk a)) cs; rw [hf]; exact ha, hg a hga⟩
theorem opn_slice {α : Type} {P : Program} {t e : TypeId} {d : Kd α} {g : α → Prop} (ht : P.underlying t = some (.slice e)) (hs : P.cellsOf e = d.sz) (h : Opn P e d g) :
    Opn P t (Kd.slice e d) fun l => l.length ≤ maxLen ∧ ∀ a, a ∈ l → g a := by
  intro H enc w base spare held n cs x hx
  rcases open_slice ht hx with ⟨rfl, _⟩ | ⟨a, len, cap, m, n', D, Pl, rfl, hb, hl, hm, hmm, _, hi⟩
  · exact ⟨[], ⟨none, 0, rfl, Nat.le_refl _, rfl, by simp, fun h => absurd h (by simp)⟩, Nat.zero_le _, fun a h => by simp at h⟩
  · have hlm : len ≤ m := by rw [hmm]; split <;> omega
    have each : ∀ i, i < len → ∃ (p : α) (c : List Value), c.length = d.sz ∧ d.K w p c ∧ g p ∧ ∀ j u, c[j]? = some u → w.cell? (a.add (i * d.sz + j)) = some u := by
      intro i hil
      obtain ⟨cs', hc, htr⟩ := hi i (by omega)
      obtain ⟨p, hp, hgp⟩ := h n' cs' _ htr
      rw [hs] at hc
      obtain ⟨_, hcl, hat⟩ := World.cells?_some hc
      refine ⟨p, cs', hcl, hp, hgp, fun j u hu => ?_⟩
      have hj : j < cs'.length := (List.getElem?_eq_some_iff.1 hu).1
      rw [← Go.Deep.add_add]
      have := hat j (by omega)
      rw [this, hu]
    have all : ∀ q, q ≤ len → ∃ l : List α, l.length = q ∧ (∀ p, p ∈ l → g p) ∧ ∀ j p, l[j]? = some p → ∃ c : List Value, c.length = d.sz ∧ d.K w p c ∧ ∀ i u, c[i]? = some u → w.cell? (a.add (j * d.sz + i)) = some u := by
      intro q
      induction q with
      | zero => intro _; exact ⟨[], rfl, fun p hp => by simp at hp, fun j p hp => by simp at hp⟩
      | succ q ih =>
        intro hq
        obtain ⟨l, hlen, hg, hl'⟩ := ih (by omega)
        obtain ⟨p, c, h1, h2, h3, h4⟩ := each q (by omega)
        refine ⟨l ++ [p], by simp [hlen], fun p' hp' => ?_, fun j p' hp' => ?_⟩
        · rcases List.mem_append.1 hp' with h' | h'
          · exact hg p' h'
          · rw [List.mem_singleton.1 h']; exact h3
        · by_cases hj : j < l.length
          · rw [List.getElem?_append_left hj] at hp'
            exact hl' j p' hp'
          · rw [List.getElem?_append_right (by omega)] at hp'
            have hj0 : j - l.length = 0 := by
              have := (List.getElem?_eq_some_iff.1 hp').1
              simp at this; omega
            rw [hj0] at hp'
            obtain rfl : p = p' := by simpa using hp'
            obtain rfl : j = q := by omega
            exact ⟨c, h1, h2, h4⟩
    obtain ⟨l, hlen, hg, hl'⟩ := all len (Nat.le_refl _)
    have hmx : cap ≤ 9223372036854775807 := by simpa [maxLen] using hm
    subst hlen
    exact ⟨l, ⟨some a, cap, rfl, hl, rfl, by omega, fun _ => ⟨a, rfl, hl'⟩⟩, Nat.le_trans hl hm, hg⟩
/-- The same for a struct's fields from a place on. -/
def OpnF {β : Type} (P : Program) (fs : List Field) (off : Nat) (d : Kd β) (g : β → Prop) : Prop :=
  ∀ {H : Type} {enc : TypeId × Value → H} {w : World} {base : Nat} {spare : Nat → Bool} {held : Bool} (n : Nat) (cs : List Value), cs.length = off + d.sz →
    (∀ f, f ∈ fs → ∃ x : DataW H × List MemPlace, DataW.trod enc P w base spare held n f.type ((cs.drop f.offset).take (P.cellsOf f.type)) = some x) → ∃ b : β, d.K w b (cs.drop off) ∧ g b
theorem opnF_one {α : Type} {P : Program} {f : Field} {off : Nat} {d : Kd α} {g : α → Prop} (ho : f.offset = off) (hs : P.cellsOf f.type = d.sz) (h : Opn P f.type d g) : OpnF P [f] off d g := by
  intro H enc w base spare held n cs hl hf
  obtain ⟨x, hx⟩ := hf f (by simp)
  rw [ho, hs, List.take_of_length_le (by rw [List.length_drop]; omega)] at hx
  exact h n _ x hx
theorem opnF_cons {α β : Type} {P : Program} {f : Field} {fs : List Field} {off : Nat} {d : Kd α} {e : Kd β} {g : α → Prop} {g' : β → Prop} (ho : f.offset = off) (hs : P.cellsOf f.type = d.sz) (h : Opn P f.type d g)
    (ht : OpnF P fs (off + d.sz) e g') : OpnF P (f :: fs) off (Kd.pair d e) fun x => g x.1 ∧ g' x.2 := by
  intro H enc w base spare held n cs hl hf
  have hl' : cs.length = off + (d.sz + e.sz) := hl
  obtain ⟨x, hx⟩ := hf f (by simp)
  rw [ho, hs] at hx
  obtain ⟨a, ha, hga⟩ := h n _ x hx
  obtain ⟨b, hb, hgb⟩ := ht (H := H) (enc := enc) (w := w) (base := base) (spare := spare) (held := held) n cs (by omega) (fun f' hf' => hf f' (List.mem_cons_of_mem _ hf'))
  exact ⟨(a, b), ⟨_, _, by rw [← List.drop_drop]; exact (List.take_append_drop d.sz (cs.drop off)).symm, ha, hb⟩, hga, hgb⟩
theorem opn_struct {β : Type} {P : Program} {t : TypeId} {fs : Array Field} {d : Kd β} {g : β → Prop} (ht : P.underlying t = some (.struct fs)) (hs : P.cellsOf t = d.sz) (h : OpnF P fs.toList 0 d g) : Opn P t d g := by
  intro H enc w base spare held n cs x hx
  obtain ⟨xs, n', _, _, hl, hxl, hf⟩ := DataW.trod_struct ht hx
  obtain ⟨b, hb, hg⟩ := h (H := H) (enc := enc) (w := w) (base := base) (spare := spare) (held := held) n' cs (by omega) (fun f hf' => by
    obtain ⟨i, hi, rfl⟩ := List.mem_iff_getElem.1 hf'
    have hi' : i < fs.size := by simpa using hi
    have := hf i fs[i] (by simp [hi'])
    rw [List.getElem?_eq_getElem (by omega)] at this
    exact ⟨_, by simpa using this⟩)
  exact ⟨b, by simpa using hb, hg⟩
theorem opn_weak {α : Type} {P : Program} {t : TypeId} {d : Kd α} {g g' : α → Prop} (h : Opn P t d g) (hg : ∀ a, g a → g' a) : Opn P t d g' := by
  intro H enc w base spare held n cs x hx
  obtain ⟨a, ha, hga⟩ := h n cs x hx
  exact ⟨a, ha, hg a hga⟩
end Go.Proofs.Ytejnbjclcdmopaa.MO
