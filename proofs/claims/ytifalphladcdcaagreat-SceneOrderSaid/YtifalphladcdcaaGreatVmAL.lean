/- What a law is handed, laid open kind by kind: whatever can be read as data is a plain value of its kind. No condition beyond those stated. -/
import Derived.Test.YtifalphladcdcaaGreatVmAK
import Derived.Deep.Slices
import Derived.Deep.Fields
import Derived.ChangeSame
import Derived.OpenShut
import Derived.SizedLaws
set_option linter.unusedVariables false
set_option linter.unusedSimpArgs false
namespace Go.VM
open Go.RowKit Go.Deep

/-- The blocks of a world as it was handed over. -/
def Old (w : World) (b : Nat) : Prop := b < w.heap.size

/-- Data of which no slice is larger than a process's memory. -/
abbrev Lite {H : Type} (P : Program) (t : TypeId) (d : DataW H) : Prop := ∀ n ∈ d.weights P t, n ≤ reachBytes

theorem lite_of {H : Type} {P : Program} {ts : List TypeId} {ds : List (DataW H)} (h : (DataW.weightsEach P ts ds).all (· ≤ reachBytes) = true) {j : Nat} {t : TypeId} {d : DataW H} (ht : ts[j]? = some t) (hd : ds[j]? = some d) : Lite P t d := by
  intro n hn
  have := List.all_eq_true.1 h n (DataW.weights_mem_each ht hd n hn)
  simpa using this
theorem weights_all {H : Type} {P : Program} {e : TypeId} : ∀ {ds : List (DataW H)} {d : DataW H}, d ∈ ds → ∀ n ∈ d.weights P e, n ∈ DataW.weightsAll P e ds
  | d0 :: ds, d, h, n, hn => by
    simp only [DataW.weightsAll, List.mem_append]
    rcases List.mem_cons.1 h with rfl | h
    · exact .inl hn
    · exact .inr (weights_all h n hn)

/-- A type whose values, as far as they can be read, are such plain values. -/
def Opn (P : Program) (t : TypeId) (g : List V → Prop) : Prop :=
  ∀ {H : Type} {enc : TypeId × Value → H} {w : World} {base : Nat} {spare : Nat → Bool} {held : Bool} (n : Nat) (cs : List Value) (x : DataW H × List MemPlace),
    DataW.trod enc P w base spare held n t cs = some x → Lite P t x.1 → ∃ vs : List V, vs.length = cs.length ∧ (∀ (k : Nat) (c : V) (v : Value), vs[k]? = some c → cs[k]? = some v → PR (Old w) w.heap c v) ∧ g vs

theorem opn_int {P : Program} {t : TypeId} {k : IntKind} (ht : P.underlying t = some (.int k)) : Opn P t fun vs => ∃ z, vs = [.int k z] ∧ (Lit.int k z).wf = true := by
  intro H enc w base spare held n cs x h _
  obtain ⟨z, rfl, _, hw⟩ := DataW.trod_int ht h
  refine ⟨[.int k z], rfl, fun i c v h1 h2 => ?_, z, rfl, hw⟩
  cases i with
  | zero => cases h1; cases h2; exact .int k z
  | succ i => cases h1

theorem opn_bool {P : Program} {t : TypeId} (ht : P.underlying t = some .bool) : Opn P t fun vs => ∃ b, vs = [.bool b] := by
  intro H enc w base spare held n cs x h _
  obtain ⟨z, rfl, _⟩ := DataW.trod_bool ht h
  refine ⟨[.bool z], rfl, fun i c v h1 h2 => ?_, z, rfl⟩
  cases i with
  | zero => cases h1; cases h2; exact .bool z
  | succ i => cases h1

theorem opn_weak {P : Program} {t : TypeId} {g g' : List V → Prop} (h : Opn P t g) (hg : ∀ a, g a → g' a) : Opn P t g' := by
  intro H enc w base spare held n cs x hx hw
  obtain ⟨a, h1, h2, h3⟩ := h n cs x hx hw
  exact ⟨a, h1, h2, hg a h3⟩

/-- The same for a struct's fields from a place on. -/
def OpnF (P : Program) (fs : List Field) (off : Nat) (g : List V → Prop) : Prop :=
  ∀ {H : Type} {enc : TypeId × Value → H} {w : World} {base : Nat} {spare : Nat → Bool} {held : Bool} (n : Nat) (cs : List Value), cs.length = off + (fs.map fun f => P.cellsOf f.type).sum →
    (∀ f, f ∈ fs → ∃ x : DataW H × List MemPlace, DataW.trod enc P w base spare held n f.type ((cs.drop f.offset).take (P.cellsOf f.type)) = some x ∧ Lite P f.type x.1) →
    ∃ vs : List V, vs.length = cs.length - off ∧ (∀ (k : Nat) (c : V) (v : Value), vs[k]? = some c → cs[off + k]? = some v → PR (Old w) w.heap c v) ∧ g vs

theorem opnF_nil {P : Program} {off : Nat} : OpnF P [] off fun vs => vs = [] := by
  intro H enc w base spare held n cs hl hf
  exact ⟨[], by simp at hl; simp [hl], fun k c v h => by simp at h, rfl⟩

theorem opnF_cons {P : Program} {f : Field} {fs : List Field} {off : Nat} {g g' : List V → Prop} (ho : f.offset = off) (h : Opn P f.type g)
    (ht : OpnF P fs (off + P.cellsOf f.type) g') : OpnF P (f :: fs) off fun vs => ∃ a b, vs = a ++ b ∧ g a ∧ g' b := by
  intro H enc w base spare held n cs hl hf
  simp only [List.map_cons, List.sum_cons] at hl
  obtain ⟨x, hx, hxw⟩ := hf f (by simp)
  rw [ho] at hx
  obtain ⟨a, h1, h2, h3⟩ := h n _ x hx hxw
  obtain ⟨b, h4, h5, h6⟩ := ht (H := H) (enc := enc) (w := w) (base := base) (spare := spare) (held := held) n cs (by omega) (fun f' hf' => hf f' (List.mem_cons_of_mem _ hf'))
  have hal : a.length = P.cellsOf f.type := by rw [h1]; simp; omega
  refine ⟨a ++ b, by simp [h4, hal]; omega, fun k c v hk hv => ?_, a, b, rfl, h3, h6⟩
  by_cases hka : k < a.length
  · rw [List.getElem?_append_left hka] at hk
    refine h2 k c v hk ?_
    rw [List.getElem?_take, if_pos (by omega), List.getElem?_drop]
    exact hv
  · rw [List.getElem?_append_right (by omega)] at hk
    refine h5 (k - a.length) c v hk ?_
    rw [show off + P.cellsOf f.type + (k - a.length) = off + k by omega]
    exact hv

theorem opn_struct {P : Program} {t : TypeId} {fs : Array Field} {g : List V → Prop} (ht : P.underlying t = some (.struct fs)) (hs : P.cellsOf t = (fs.toList.map fun f => P.cellsOf f.type).sum) (h : OpnF P fs.toList 0 g) : Opn P t g := by
  intro H enc w base spare held n cs x hx hw
  obtain ⟨xs, n', _, rfl, hl, hxl, hf⟩ := DataW.trod_struct ht hx
  have hw' : ∀ n ∈ DataW.weightsEach P (fs.toList.map (·.type)) (xs.map (·.1)), n ≤ reachBytes := by
    intro n hn
    refine hw n ?_
    simp only [DataW.weights, ht]
    exact hn
  obtain ⟨b, h1, h2, h3⟩ := h (H := H) (enc := enc) (w := w) (base := base) (spare := spare) (held := held) n' cs (by omega) (fun f hf' => by
    obtain ⟨i, hi, rfl⟩ := List.mem_iff_getElem.1 hf'
    have hi' : i < fs.size := by simpa using hi
    have := hf i fs[i] (by simp [hi'])
    have hix : i < xs.length := by omega
    rw [List.getElem?_eq_getElem hix] at this
    exact ⟨_, by simpa using this, fun n hn => hw' n (DataW.weights_mem_each (j := i) (by simp [hi']) (by simp [hix]) n hn)⟩)
  exact ⟨b, by simpa using h1, by simpa using h2, h3⟩

/-- An array of one-celled elements. -/
theorem opn_array {P : Program} {t e : TypeId} {n : Nat} {g : List V → Prop} (ht : P.underlying t = some (.array n e)) (h1 : P.cellsOf e = 1) (hs : P.cellsOf t = n) (h : Opn P e g) :
    Opn P t fun vs => vs.length = n ∧ ∀ x ∈ vs, g [x] := by
  intro H enc w base spare held m cs x hx hw
  obtain ⟨xs, n', _, rfl, hl, hxl, hf⟩ := DataW.trod_array ht hx
  have hw' : ∀ n ∈ DataW.weightsAll P e (xs.map (·.1)), n ≤ reachBytes := by
    intro n hn
    refine hw n ?_
    simp only [DataW.weights, ht]
    exact hn
  have each : ∀ i, i < n → ∃ c v, cs[i]? = some v ∧ PR (Old w) w.heap c v ∧ g [c] := by
    intro i hi
    have := hf i hi
    have hix : i < xs.length := by omega
    rw [List.getElem?_eq_getElem hix] at this
    obtain ⟨vs, ha, hb, hc⟩ := h n' _ _ this fun n hn => hw' n (weights_all (d := xs[i].1) (List.mem_map.2 ⟨xs[i], List.getElem_mem hix, rfl⟩) n hn)
    rw [h1, Nat.mul_one] at ha hb
    have hci : i < cs.length := by omega
    have ha' : vs.length = 1 := by rw [ha]; simp; omega
    match vs, ha' with
    | [c], _ =>
      refine ⟨c, cs[i], List.getElem?_eq_getElem hci, hb 0 c _ rfl ?_, hc⟩
      simp [hci]
  have all : ∀ q, q ≤ n → ∃ l : List V, l.length = q ∧ (∀ x ∈ l, g [x]) ∧ ∀ (k : Nat) (c : V) (v : Value), l[k]? = some c → cs[k]? = some v → PR (Old w) w.heap c v := by
    intro q
    induction q with
    | zero => intro _; exact ⟨[], rfl, fun x hx => by simp at hx, fun k c v hk => by simp at hk⟩
    | succ q ih =>
      intro hq
      obtain ⟨l, hl1, hl2, hl3⟩ := ih (by omega)
      obtain ⟨c, v, hv, hp, hg⟩ := each q (by omega)
      refine ⟨l ++ [c], by simp [hl1], fun x hx => ?_, fun k c' v' hk hv' => ?_⟩
      · rcases List.mem_append.1 hx with hx | hx
        · exact hl2 x hx
        · rw [List.mem_singleton.1 hx]; exact hg
      · by_cases hkl : k < l.length
        · rw [List.getElem?_append_left hkl] at hk
          exact hl3 k c' v' hk hv'
        · rw [List.getElem?_append_right (by omega)] at hk
          have : k - l.length = 0 := by have := (List.getElem?_eq_some_iff.1 hk).1; simp at this; omega
          rw [this] at hk
          obtain rfl : c = c' := by simpa using hk
          obtain rfl : k = q := by omega
          rw [hv] at hv'; cases hv'
          exact hp
  obtain ⟨l, hl1, hl2, hl3⟩ := all n (Nat.le_refl _)
  exact ⟨l, by omega, hl3, hl1, hl2⟩

theorem cell_block {w : World} {b off : Nat} {spot : Option Nat} {v : Value} (h : w.cell? ⟨b, off, spot⟩ = some v) : spot = none ∧ ∃ cells T fz, w.heap[b]? = some (.cells cells T fz) ∧ cells[off]? = some v := by
  unfold World.cell? at h
  split at h
  · rename_i c T fz hb
    cases spot with
    | none => exact ⟨rfl, c, T, fz, hb, h⟩
    | some s => cases h
  · cases h

theorem add_none (b off k : Nat) : (⟨b, off, none⟩ : Addr).add k = ⟨b, off + k, none⟩ := by
  unfold Addr.add
  split
  · rename_i h; subst h; rfl
  · rfl

theorem opn_slice {P : Program} {t e : TypeId} {sz by_ : Nat} {g : List V → Prop} (ht : P.underlying t = some (.slice e)) (hsz : P.cellsOf e = sz) (hby : P.bytesOf e = by_) (hpos : 0 < sz) (h : Opn P e g) :
    Opn P t fun vs => ∃ xs, vs = [.list sz xs] ∧ (xs.length ≤ maxLen ∧ xs.length * by_ ≤ reachBytes) ∧ (∀ x ∈ xs, x.length = sz ∧ g x) := by
  intro H enc w base spare held n cs x hx hw
  have one : ∀ (v : V) (u : Value), PR (Old w) w.heap v u → ∀ (k : Nat) (c : V) (v' : Value), [v][k]? = some c → [u][k]? = some v' → PR (Old w) w.heap c v' := by
    intro v u hp k c v' h1 h2
    cases k with
    | zero => cases h1; cases h2; exact hp
    | succ k => cases h1
  rcases open_slice ht hx with ⟨rfl, _⟩ | ⟨a, len, cap, m, n', D, Pl, rfl, hb, hl, hm, hmm, rfl, hi⟩
  · exact ⟨[.list sz []], rfl, one _ _ (.list0 _ _ _ fun _ => rfl), [], rfl, ⟨Nat.zero_le _, by simp⟩, fun x hx => by simp at hx⟩
  · have hlm : len ≤ m := by rw [hmm]; split <;> omega
    have hby' : len * by_ ≤ reachBytes := by
      have := hw ((((List.range len).map D).length + ((List.range (m - len)).map fun j => D (len + j)).length) * P.bytesOf e) (by simp [DataW.weights, ht])
      rw [hby] at this
      refine Nat.le_trans (Nat.mul_le_mul_right _ ?_) this
      simp
    have hw' : ∀ i, i < len → Lite P e (D i) := by
      intro i hi n hn
      refine hw n ?_
      simp only [DataW.weights, ht, List.mem_cons, List.mem_append]
      exact .inr (.inl (weights_all (d := D i) (List.mem_map.2 ⟨i, List.mem_range.2 hi, rfl⟩) n hn))
    have each : ∀ i, i < len → ∃ (p : List V) (c : List Value), c.length = sz ∧ p.length = sz ∧ g p ∧ (∀ (k : Nat) (c' : V) (v : Value), p[k]? = some c' → c[k]? = some v → PR (Old w) w.heap c' v) ∧ ∀ j u, c[j]? = some u → w.cell? (a.add (i * sz + j)) = some u := by
      intro i hil
      obtain ⟨cs', hc, htr⟩ := hi i (by omega)
      obtain ⟨p, hp1, hp2, hp3⟩ := h n' cs' _ htr (hw' i hil)
      rw [hsz] at hc
      obtain ⟨_, hcl, hat⟩ := World.cells?_some hc
      refine ⟨p, cs', hcl, by rw [hp1, hcl], hp3, hp2, fun j u hu => ?_⟩
      have hj : j < cs'.length := (List.getElem?_eq_some_iff.1 hu).1
      rw [← Go.Deep.add_add]
      have := hat j (by omega)
      rw [this, hu]
    have all : ∀ q, q ≤ len → ∃ (l : List (List V)) (vals : List Value), l.length = q ∧ vals.length = q * sz ∧ (∀ x ∈ l, x.length = sz ∧ g x) ∧
        (∀ (k : Nat) (c : V) (v : Value), l.flatten[k]? = some c → vals[k]? = some v → PR (Old w) w.heap c v) ∧ ∀ (j : Nat) (u : Value), vals[j]? = some u → w.cell? (a.add j) = some u := by
      intro q
      induction q with
      | zero => intro _; exact ⟨[], [], rfl, by simp, fun x hx => by simp at hx, fun k c v hk => by simp at hk, fun j u hj => by simp at hj⟩
      | succ q ih =>
        intro hq
        obtain ⟨l, vals, e1, e2, e3, e4, e5⟩ := ih (by omega)
        obtain ⟨p, c, h1, h2, h3, h4, h5⟩ := each q (by omega)
        have hfl : l.flatten.length = q * sz := by
          have : ∀ (l : List (List V)), (∀ x ∈ l, x.length = sz) → l.flatten.length = l.length * sz := by
            intro l
            induction l with
            | nil => intro _; simp
            | cons y l ih => intro hy; simp [ih (fun x hx => hy x (List.mem_cons_of_mem _ hx)), hy y (by simp), Nat.succ_mul]; omega
          rw [this l (fun x hx => (e3 x hx).1), e1]
        refine ⟨l ++ [p], vals ++ c, by simp [e1], by simp [e2, h1, Nat.succ_mul], fun x hx => ?_, fun k c' v hk hv => ?_, fun j u hj => ?_⟩
        · rcases List.mem_append.1 hx with hx | hx
          · exact e3 x hx
          · rw [List.mem_singleton.1 hx]; exact ⟨h2, h3⟩
        · rw [List.flatten_append] at hk
          by_cases hkl : k < q * sz
          · rw [List.getElem?_append_left (by omega)] at hk
            rw [List.getElem?_append_left (by omega)] at hv
            exact e4 k c' v hk hv
          · rw [List.getElem?_append_right (by omega), hfl] at hk
            rw [List.getElem?_append_right (by omega), e2] at hv
            exact h4 _ c' v (by simpa using hk) hv
        · by_cases hjl : j < q * sz
          · rw [List.getElem?_append_left (by omega)] at hj
            exact e5 j u hj
          · rw [List.getElem?_append_right (by omega), e2] at hj
            have := h5 _ u hj
            rw [show q * sz + (j - q * sz) = j by omega] at this
            exact this
    obtain ⟨l, vals, e1, e2, e3, e4, e5⟩ := all len (Nat.le_refl _)
    refine ⟨[.list sz l], rfl, one _ _ ?_, l, rfl, ⟨by rw [e1]; exact Nat.le_trans hl hm, by rw [e1]; exact hby'⟩, e3⟩
    by_cases hlen : len = 0
    · subst hlen
      obtain rfl : l = [] := by simpa using e1
      exact .list0 _ _ _ fun h => by cases h
    · have hv0 : 0 < vals.length := by rw [e2]; exact Nat.mul_pos (by omega) hpos
      obtain ⟨b, off, spot⟩ := a
      have c0 := e5 0 _ (List.getElem?_eq_getElem hv0)
      obtain ⟨rfl, cells, T, fz, hB, _⟩ := cell_block c0
      have hB' := hB
      rw [← e1]
      refine .list sz l b off cap cells T fz vals (fun x hx => (e3 x hx).1) (by rw [e1]; exact hl) ?_ hB (by rw [e2, e1]) (fun k hk => ?_) e4
      · exact (Array.getElem?_eq_some_iff.1 hB').1
      · have := e5 k _ (List.getElem?_eq_getElem hk)
        rw [add_none] at this
        obtain ⟨_, cells', T', fz', hB'', hc⟩ := cell_block this
        rw [hB] at hB''; cases hB''
        rw [hc, List.getElem?_eq_getElem hk]

/-- A law with arguments, by what the machine answers. -/
theorem open_ok {P : Program} {X : Cx} (hX : X.OK P) (hm : P.follows .mixedOrders = true) {O : Oracle} (hO : OS P O) {N n f : Nat} {args : List V} {σ' : Store} {b : Bool} (h : call P X O N n f args [] = some (.bool b, σ')) (w : World) (vs : Array Value)
    (hl : vs.size = args.length) (hv : ∀ (k : Nat) (c : V) (v : Value), args[k]? = some c → vs[k]? = some v → AR [] (Old w) w.heap c v) :
    Calls P f vs w fun e w' => e = .returned (.bool b) ∧ Below w.heap.size w w' := by
  have hs : SR [] (Old w) [] w.heap := ⟨rfl, fun i => .inl ⟨by simp, by simp⟩, fun i j b base sz tot base' sz' tot' h => by simp at h, fun b hb => hb⟩
  refine (call_ok hX hm hO N n f args [] (.bool b) σ' h [] _ w vs hs hl hv).mono fun e w' ⟨x, D', Γ', he, hk, hv, _, hx⟩ => ?_
  have := hv.bool
  subst this
  refine ⟨he, ⟨hk.os, hk.tape, hk.output, hx.size, fun k hk => hx.same k hk ?_⟩⟩
  rintro ⟨i, base, sz, tot, hi, _⟩
  simp at hi

/-- An argument of one cell. -/
theorem arg_one {w : World} {v : Value} {vs : List V} {c : V} (h0 : vs = [c]) (h1 : vs.length = v.cells.toList.length) (h2 : ∀ (k : Nat) (c : V) (u : Value), vs[k]? = some c → v.cells.toList[k]? = some u → PR (Old w) w.heap c u) (ha : v.oneCell' = true) : AR [] (Old w) w.heap c v := by
  subst h0
  have : v.cells.toList = [v] := by cases v <;> first | rfl | cases ha
  rw [this] at h2
  exact .leaf (.pr (h2 0 c v rfl rfl))
theorem arg_agg {w : World} {cs : Array Value} {vs : List V} (h1 : vs.length = (Value.agg cs).cells.toList.length) (h2 : ∀ (k : Nat) (c : V) (u : Value), vs[k]? = some c → (Value.agg cs).cells.toList[k]? = some u → PR (Old w) w.heap c u) : AR [] (Old w) w.heap (.agg vs) (.agg cs) := by
  have : (Value.agg cs).cells.toList = cs.toList := by simp [Value.cells]
  rw [this] at h1 h2
  refine .agg cs (by simpa using h1.symm) fun k c v hk hv => .pr (h2 k c v hk (by simpa using hv))
end Go.VM
namespace Go.VM
open Go.RowKit (Below)
/-- Arguments, one by one. -/
def Args (w : World) : List V → List Value → Prop
  | [], [] => True
  | c :: cs, v :: vs => AR [] (Old w) w.heap c v ∧ Args w cs vs
  | _, _ => False

theorem Args.get {w : World} : ∀ {cs : List V} {vs : List Value}, Args w cs vs → vs.length = cs.length ∧ ∀ (k : Nat) (c : V) (v : Value), cs[k]? = some c → vs[k]? = some v → AR [] (Old w) w.heap c v
  | [], [], _ => ⟨rfl, fun k c v h => by simp at h⟩
  | c :: cs, v :: vs, h => by
    obtain ⟨h1, h2⟩ := h
    obtain ⟨h3, h4⟩ := Args.get h2
    refine ⟨by simp [h3], fun k c' v' e1 e2 => ?_⟩
    cases k with
    | zero => cases e1; cases e2; exact h1
    | succ k => exact h4 k c' v' e1 e2
  | [], _ :: _, h => h.elim
  | _ :: _, [], h => h.elim

theorem open_args {P : Program} {X : Cx} (hX : X.OK P) (hm : P.follows .mixedOrders = true) {O : Oracle} (hO : OS P O) {N n f : Nat} {args : List V} {σ' : Store} {b : Bool} (h : call P X O N n f args [] = some (.bool b, σ')) (w : World) (vs : Array Value)
    (ha : Args w args vs.toList) : Calls P f vs w fun e w' => e = .returned (.bool b) ∧ Below w.heap.size w w' := by
  obtain ⟨h1, h2⟩ := ha.get
  exact open_ok hX hm hO h w vs (by simpa using h1) fun k c v e1 e2 => h2 k c v e1 (by simpa using e2)

theorem okWide_array {P : Program} {w : World} {r : Reach} {base t n e : Nat} {v : Value} (ht : P.underlying t = some (.array n e)) (h : Value.okWide P w r base t v) : ∃ cs, v = .agg cs ∧ cs.size = P.cellsOf t := by
  simp only [Value.okWide, ht] at h
  obtain ⟨cs, h1, h2, _⟩ := h
  exact ⟨cs, h1, h2⟩
end Go.VM
